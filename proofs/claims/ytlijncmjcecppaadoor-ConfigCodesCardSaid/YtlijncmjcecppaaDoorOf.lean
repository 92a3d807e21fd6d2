/- Package delay by contracts: Of. -/
import Derived.Test.YtlijncmjcecppaaDoorCheck3
namespace Go.Proofs.YtlijncmjcecppaaDoor
open Go.RowKit

def Dly.of1 (st warn s : Int) : Int := if st < 0 ∨ s < 1 then 0 else mx 0 (st / s - mx 0 warn)
def Dly.ofK (st warn s : Int) (k j : Nat) : Int := if j < k then Dly.of1 st warn s else 0
theorem Dly.ofK_old (st warn s : Int) {k j : Nat} (h : j ≠ k) : Dly.ofK st warn s (k + 1) j = Dly.ofK st warn s k j := by
  unfold Dly.ofK
  by_cases h1 : j < k
  · rw [if_pos h1, if_pos (by omega)]
  · rw [if_neg h1, if_neg (by omega)]
theorem Dly.ofK_new (st warn s : Int) (k : Nat) : Dly.ofK st warn s (k + 1) k = Dly.of1 st warn s := if_pos (Nat.lt_succ_self k)
theorem Dly.ofK_none (st warn s : Int) (k j : Nat) (h : k ≤ j) : Dly.ofK st warn s k j = 0 := if_neg (by omega)
def Dly.ofV (st warn s0 s1 s2 : Int) (k : Nat) : Array Value := #[.int .i64 (Dly.ofK st warn s0 k 0), .int .i64 (Dly.ofK st warn s1 k 1), .int .i64 (Dly.ofK st warn s2 k 2)]
theorem Dly.ofV_same (st warn s0 s1 s2 : Int) (k : Nat) (hk : k < 3) : (Dly.ofV st warn s0 s1 s2 k).setIfInBounds k (.int .i64 0) = Dly.ofV st warn s0 s1 s2 k := by
  match k, hk with
  | 0, _ => rfl
  | 1, _ => rfl
  | 2, _ => rfl
theorem Dly.of1_bad {st warn s : Int} (h : st < 0 ∨ s < 1) : Dly.of1 st warn s = 0 := if_pos h
theorem mx0 (a : Int) : 0 ≤ mx 0 a ∧ a ≤ mx 0 a := by unfold mx; omega
theorem mx0_le {a b : Int} (h : a ≤ b) (hb : 0 ≤ b) : mx 0 a ≤ b := by unfold mx; omega

set_option maxHeartbeats 2000000 in
theorem of_any (st sg s0 s1 s2 warn : Int) (w : World) (hst : I64 st) (h0 : I64 s0) (h1 : I64 s1) (h2 : I64 s2) (hw : I64 warn) :
    Calls Tryd.prog 13 #[.agg #[.int .i64 st, .int .i64 sg, .int .i64 s0, .int .i64 s1, .int .i64 s2], .int .i64 warn] w fun r w' =>
      r = .returned (.agg #[.int .i64 (Dly.of1 st warn s0), .int .i64 (Dly.of1 st warn s1), .int .i64 (Dly.of1 st warn s2)]) ∧ Below w.heap.size w w' := by
  have W := hid (fun (s : Int) (hs : I64 s) X => way_any st s X hst hs)
  have HH := hid (And.intro h0 (And.intro h1 h2))
  have HM := hid (mx0_le hw.2 (by omega))
  obtain ⟨m0, _⟩ := mx0 warn
  have HST := hid hst
  clear h0 h1 h2 hst hw
  go_enter Tryd.func13, Tryd.ntmps13
  go_wp2_with fail
  go_loopg [11] 3 (fun gg s11 wr => ∃ kk : Nat, kk ≤ 3 ∧ 3 - kk ≤ gg ∧ s11 = .int .i64 kk ∧ Hid (Below w.heap.size w wr ∧ Box wr w.heap.size 24 #[.int .i64 st, .int .i64 sg, .int .i64 s0, .int .i64 s1, .int .i64 s2] ∧ Box wr (w.heap.size + 1) 22 (Dly.ofV st warn s0 s1 s2 kk)))
  case atStart =>
    refine ⟨0, by omega, by omega, rfl, ((Below.refl _ _).alloc (Nat.le_refl _) _).alloc (by simp) _, (Box.new w _ _).alloc _, ?_⟩
    have := Box.new (w.alloc (.cells #[.int .i64 st, .int .i64 sg, .int .i64 s0, .int .i64 s1, .int .i64 s2] 24)) 22 #[.int .i64 0, .int .i64 0, .int .i64 0]
    rw [World.size_alloc] at this
    exact this
  case round =>
    obtain ⟨kk, hkk, hg, rfl, R⟩ := hrel
    by_cases hlt : kk < 3
    · have hl0 : wr.cell? ⟨w.heap.size, 0, none⟩ = some (.int .i64 st) := (R.out.2.1.cell 0).trans rfl
      have hsz := R.out.2.2.lt
      obtain ⟨s, hs, hix, hnew⟩ : ∃ s : Int, I64 s ∧ (∀ W, (Instr.index 22 (.agg #[.int .i64 s0, .int .i64 s1, .int .i64 s2]) (.int .i64 (kk : Int))).run Tryd.prog W = .ok (.int .i64 s) W) ∧
          (Dly.ofV st warn s0 s1 s2 kk).setIfInBounds kk (.int .i64 (Dly.of1 st warn s)) = Dly.ofV st warn s0 s1 s2 (kk + 1) ∧ (Dly.ofV st warn s0 s1 s2 kk)[kk]? = some (.int .i64 0) := by
        match kk, hlt with
        | 0, _ => exact ⟨s0, HH.out.1, fun W => ix3_0 _ _ _ W, rfl, rfl⟩
        | 1, _ => exact ⟨s1, HH.out.2.1, fun W => ix3_1 _ _ _ W, rfl, rfl⟩
        | 2, _ => exact ⟨s2, HH.out.2.2, fun W => ix3_2 _ _ _ W, rfl, rfl⟩
      have HN := hid hnew
      have HWay := hid (W.out s hs)
      clear hnew
      by_cases hbad : st < 0 ∨ s < 1
      · have e0 : Dly.wayC st s = 1 := if_pos hbad
        have e2 := hid (Dly.of1_bad (warn := warn) hbad)
        rw [e0] at HWay
        clear e0 hbad
        go_wp2_with fail
        refine (HWay.out _).mono ?_
        rintro r w' ⟨x, rfl, hx, hb⟩
        obtain ⟨tx, y, rfl⟩ : ∃ t y, x = .iface t y := by
          rcases hx with hx | ⟨_, n, _, hx⟩
          · exact absurd hx.2 (by omega)
          · exact hx.form
        clear hx
        have B' := hid hb
        clear hb
        go_wp2
        go_roundg (3 - (kk + 1))
        case measure => omega
        case rel =>
          refine ⟨kk + 1, by omega, by omega, by go_num, R.out.1.trans (B'.out.mono R.out.1.size), R.out.2.1.below B'.out R.out.2.1.lt, ?_⟩
          have h4 := R.out.2.2.below B'.out R.out.2.2.lt
          rw [← HN.out.1, e2.out]
          have h5 := Dly.ofV_same st warn s0 s1 s2 kk hlt
          rw [h5]
          exact h4
      · have e0 : Dly.wayC st s = 0 := if_neg hbad
        have e1 : Dly.wayN st s = st / s := if_neg hbad
        have e2 := hid (show Dly.of1 st warn s = mx 0 (st / s - mx 0 warn) from if_neg hbad)
        rw [e0, e1] at HWay
        have g0 : 0 ≤ st / s := Int.ediv_nonneg (by omega) (by omega)
        have g1 : st / s ≤ 9223372036854775807 := Int.le_trans (Int.ediv_le_self _ (by omega)) HST.out.2
        have g2 := HM.out
        clear e0 e1 hbad
        go_wp2_with fail
        refine (HWay.out _).mono ?_
        rintro r w' ⟨x, rfl, hx, hb⟩
        obtain rfl : x = .nilIface := by rcases hx with hx | hx; exact hx.1; exact absurd rfl hx.1
        clear hx
        have B' := hid hb
        have hbx := R.out.2.2.below hb R.out.2.2.lt
        have hc : w'.cell? ⟨w.heap.size + 1, kk, none⟩ = some (.int .i64 0) := (hbx.cell kk).trans HN.out.2
        have hf : w'.frozen? ⟨w.heap.size + 1, kk, none⟩ = false := hbx.frozen kk
        have HBX := hid hbx
        clear hb hbx
        go_wp2
        go_roundg (3 - (kk + 1))
        case measure => omega
        case rel =>
          refine ⟨kk + 1, by omega, by omega, by go_num, (R.out.1.trans (B'.out.mono R.out.1.size)).setCell (by simp) _, (R.out.2.1.below B'.out R.out.2.1.lt).aside (by simp) _, ?_⟩
          rw [← HN.out.1, e2.out]
          exact HBX.out.store kk _
    · have e : kk = 3 := by omega
      subst e
      have hB := R.out.1
      have hbx : Box wr (w.heap.size + 1) 22 #[.int .i64 (Dly.of1 st warn s0), .int .i64 (Dly.of1 st warn s1), .int .i64 (Dly.of1 st warn s2)] := R.out.2.2
      obtain ⟨x0, e0⟩ : ∃ x, x = Dly.of1 st warn s0 := ⟨_, rfl⟩
      obtain ⟨x1, e1⟩ : ∃ x, x = Dly.of1 st warn s1 := ⟨_, rfl⟩
      obtain ⟨x2, e2⟩ : ∃ x, x = Dly.of1 st warn s2 := ⟨_, rfl⟩
      rw [← e0, ← e1, ← e2] at hbx
      have E := hid (And.intro e0 (And.intro e1 e2))
      clear e0 e1 e2
      have c0 : wr.cell? ⟨w.heap.size + 1, 0, none⟩ = some (.int .i64 x0) := (hbx.cell 0).trans rfl
      have c1 : wr.cell? ⟨w.heap.size + 1, 1, none⟩ = some (.int .i64 x1) := (hbx.cell 1).trans rfl
      have c2 : wr.cell? ⟨w.heap.size + 1, 2, none⟩ = some (.int .i64 x2) := (hbx.cell 2).trans rfl
      have f0 := hbx.frozen 0
      have f1 := hbx.frozen 1
      have f2 := hbx.frozen 2
      have HB := hid hB
      clear hB hbx R hg hkk hlt
      go_wp2
      refine bodyPost_ret (v := .agg #[.int .i64 x0, .int .i64 x1, .int .i64 x2]) (by simp [results, Tryd.results13, go_sem, c0, c1, c2]) rfl ⟨by rw [E.out.1, E.out.2.1, E.out.2.2], ?_⟩
      exact ((HB.out.setCell (by simp) _).setCell (by simp) _).setCell (by simp) _
end Go.Proofs.YtlijncmjcecppaaDoor
