/- ConfigTimes by contracts. -/
import Derived.Test.YtlijncmjcecppaaDoorSmall8
namespace Go.Proofs.YtlijncmjcecppaaDoor
open Go.RowKit

theorem ok_cf0 (n : Nat) (t : Int) : Cfg.ok (cf0 n t) = (decide (1 ≤ (n : Int)) && decide ((n : Int) ≤ 8) && (decide (1 ≤ t) && decide (t ≤ 6000))) := by
  have e1 : (cf0 n t).lines.length = n := List.length_replicate ..
  have e2 : (cf0 n t).lines.all Cfg.lineOk = true := List.all_eq_true.2 fun l hl => by rw [List.eq_of_mem_replicate hl]; decide
  unfold Cfg.ok Cfg.timesOk
  rw [e1, e2, Bool.and_true]
  have e3 : ((cf0 n t).times.nums.all fun n => Cfg.inB n 1 6000) = Cfg.inB t 1 6000 := by
    simp only [cf0, tm0, Tm.nums, List.all_cons, List.all_nil, Bool.and_true]
    cases Cfg.inB t 1 6000 <;> rfl
  rw [e3]
  rfl

theorem times_out (n t : Int) (w : World) (hg : ErrTypeAt w) (h : decide (n < 0) = true ∨ (decide (n < 0) = false ∧ decide (20 < n) = true)) :
    Calls Tryd.prog 10 #[.int .i64 n, .int .i64 t] w fun r w' => r = .returned (.bool true) ∧ Below w.heap.size w w' := by
  have HG := hid hg
  clear hg
  rcases h with h | ⟨h, h'⟩
  all_goals
    go_enter Tryd.func10, Tryd.ntmps10
    go_wp2_with fail
    refine (small8_any _ HG.out).mono ?_
    rintro r w1 ⟨rfl, hb1⟩
    have H1 := hid hb1
    clear hb1
    go_wp2
    go_ret
    exact ⟨rfl, H1.out⟩

theorem times_in (n : Nat) (t : Int) (w : World) (hg : ErrTypeAt w) (hn : n ≤ 20) :
    Calls Tryd.prog 10 #[.int .i64 (n : Nat), .int .i64 t] w fun r w' => r = .returned (.bool true) ∧ Below w.heap.size w w' := by
  have HG := hid hg
  have HC := hid (fun W => crossing_any n t W (by omega))
  have HK := hid (fun A cap W h => check_any (cf0 n t) A cap W h (by rw [show (cf0 n t).lines.length = n from List.length_replicate ..]; omega))
  have hok := ok_cf0 n t
  unfold Cfg.code at HK
  rw [hok] at HK
  clear hg hok
  have g0 : decide ((n : Int) < 0) = false := by simp
  have g1 : decide (20 < (n : Int)) = false := by simp; omega
  have p1 : (decide (1 ≤ (n : Int)) = true ∧ decide ((n : Int) ≤ 8) = true) ∨ (decide (1 ≤ (n : Int)) = true ∧ decide ((n : Int) ≤ 8) = false) ∨ (decide (1 ≤ (n : Int)) = false ∧ decide ((n : Int) ≤ 8) = true) := by
    simp only [decide_eq_true_eq, decide_eq_false_iff_not]; omega
  have p3 : (decide (1 ≤ t) = true ∧ decide (t ≤ 6000) = true) ∨ (decide (1 ≤ t) = true ∧ decide (t ≤ 6000) = false) ∨ (decide (1 ≤ t) = false ∧ decide (t ≤ 6000) = true) := by
    simp only [decide_eq_true_eq, decide_eq_false_iff_not]; omega
  generalize hcd : (if (decide (1 ≤ (n : Int)) && decide ((n : Int) ≤ 8) && (decide (1 ≤ t) && decide (t ≤ 6000))) = true then (0 : Int) else 6) = cd at HK
  have HCD := hid hcd
  clear hcd
  rcases p1 with ⟨d1, d2⟩ | ⟨d1, d2⟩ | ⟨d1, d2⟩ <;> rcases p3 with ⟨d3, d4⟩ | ⟨d3, d4⟩ | ⟨d3, d4⟩
  all_goals
    go_enter Tryd.func10, Tryd.ntmps10
    go_wp2_with fail
    refine (small8_any _ HG.out).mono ?_
    rintro r w1 ⟨rfl, hb1⟩
    go_wp2_with fail
    refine (HC.out _).mono ?_
    rintro r w2 ⟨A, cap, rfl, hs, hb2⟩
    have H2 := hid (And.intro hs (hb1.trans (hb2.mono hb1.size)))
    clear hs hb1 hb2
    go_wp2_with fail
    refine (HK.out _ _ _ H2.out.1).mono ?_
    rintro r w3 ⟨e, rfl, he, hb3⟩
    have hc := HCD.out
    rw [d1, d2, d3, d4] at hc
    first
      | (obtain rfl : (0 : Int) = cd := hc
         obtain rfl := he.nilOf)
      | (obtain rfl : (6 : Int) = cd := hc
         obtain ⟨te, ye, rfl⟩ := he.ifaceOf (by omega))
    have H3 := hid (H2.out.2.trans (hb3.mono H2.out.2.size))
    clear he hb3 H2
    go_wp2
    go_ret
    exact ⟨rfl, H3.out⟩
theorem configTimes_any (n t : Int) (w : World) (hg : ErrTypeAt w) :
    Calls Tryd.prog 10 #[.int .i64 n, .int .i64 t] w fun r w' => r = .returned (.bool true) ∧ Below w.heap.size w w' := by
  by_cases h : n < 0 ∨ 20 < n
  · refine times_out n t w hg ?_
    simp only [decide_eq_true_eq, decide_eq_false_iff_not]
    omega
  · obtain ⟨m, rfl⟩ := Int.eq_ofNat_of_zero_le (show 0 ≤ n by omega)
    exact times_in m t w hg (by omega)
end Go.Proofs.YtlijncmjcecppaaDoor
