/- Package config by contracts: Check. -/
import Derived.Test.YtlijncmjcecppaaDoorCheck
namespace Go.Proofs.YtlijncmjcecppaaDoor
open Go.RowKit

theorem bad_any (l : Ln) (w : World) :
    Calls Tryd.prog 51 #[.agg (lnA l)] w fun r w' => r = .returned (.bool (!Cfg.lineOk l)) ∧ Below w.heap.size w w' := by
  have C := hid (fun W => right_any l W)
  generalize Cfg.lineOk l = q at C
  cases l with
  | mk st sg s0 s1 s2 =>
    simp only [lnA] at C ⊢
    go_enter Tryd.func51, Tryd.ntmps51
    go_wp2_with (go_at_call 52; refine (C.out _).mono ?_; rintro r w' ⟨rfl, hb⟩)
    go_ret
    exact ⟨rfl, ((Below.refl _ _).alloc (Nat.le_refl _) _).trans (hb.mono (by simp))⟩

theorem linesVs_length (ls : List Ln) : (linesVs ls).length = 5 * ls.length := by
  induction ls with
  | nil => rfl
  | cons l ls ih => rw [linesVs, List.flatMap_cons, List.length_append]; show 5 + (linesVs ls).length = _; rw [ih]; simp only [List.length_cons]; omega
theorem linesVs_at (ls : List Ln) : ∀ (k j : Nat) (hk : k < ls.length), j < 5 → (linesVs ls)[5 * k + j]? = (lnVs ls[k])[j]? := by
  induction ls with
  | nil => intro k j hk; exact absurd hk (Nat.not_lt_zero _)
  | cons l ls ih =>
    intro k j hk hj
    have e : linesVs (l :: ls) = lnVs l ++ linesVs ls := rfl
    have e5 : (lnVs l).length = 5 := rfl
    cases k with
    | zero => rw [e, List.getElem?_append_left (by omega)]; simp
    | succ k =>
      rw [e, List.getElem?_append_right (by omega), e5]
      have e2 : 5 * (k + 1) + j - 5 = 5 * k + j := by omega
      rw [e2, ih k j (by simpa using hk) hj]
      rfl
/-- The five cells of a line. -/
theorem line_cells {w : World} {b off : Nat} {ls : List Ln} (h : ∀ j v, (linesVs ls)[j]? = some v → w.cell? ⟨b, off + j, none⟩ = some v) (k : Nat) (hk : k < ls.length) :
    w.cell? ⟨b, off + k * 5, none⟩ = some (.int .i64 ls[k].strike) ∧ w.cell? ⟨b, off + k * 5 + 1, none⟩ = some (.int .i64 ls[k].signal) ∧ w.cell? ⟨b, off + k * 5 + 2, none⟩ = some (.int .i64 ls[k].s0) ∧ w.cell? ⟨b, off + k * 5 + 3, none⟩ = some (.int .i64 ls[k].s1) ∧ w.cell? ⟨b, off + k * 5 + 4, none⟩ = some (.int .i64 ls[k].s2) := by
  have g : ∀ j v, j < 5 → (lnVs ls[k])[j]? = some v → w.cell? ⟨b, off + k * 5 + j, none⟩ = some v := by
    intro j v hj hv
    have := h (5 * k + j) v ((linesVs_at ls k j hk hj).trans hv)
    rw [show off + k * 5 + j = off + (5 * k + j) from by omega]
    exact this
  exact ⟨g 0 _ (by omega) rfl, g 1 _ (by omega) rfl, g 2 _ (by omega) rfl, g 3 _ (by omega) rfl, g 4 _ (by omega) rfl⟩

set_option maxHeartbeats 1000000 in
theorem index_bad (ls : List Ln) (A : Option Addr) (cap : Nat) (w : World) (hs : Sees w A (linesVs ls)) (hbig : ls.length ≤ 1000000000000000) :
    Calls Tryd.prog 63 #[.slice A ls.length cap, .func (.func 51) #[] #[]] w fun r w' =>
      ∃ i : Int, r = .returned (.int .i64 i) ∧ (0 ≤ i) = (ls.any (fun l => !Cfg.lineOk l) = true) ∧ Below w.heap.size w w' := by
  obtain ⟨n, hn⟩ : ∃ n, n = ls.length := ⟨_, rfl⟩
  rw [← hn] at hbig ⊢
  have HN := hid hn
  have HS := hid hs
  clear hn hs
  go_enter Tryd.func63, Tryd.ntmps63
  go_wp2_with fail
  go_loopg [5, 8] n (fun gg _ s8 wr => ∃ kk : Nat, kk ≤ n ∧ n - kk ≤ gg ∧ s8 = .int .i64 kk ∧ Hid (Below w.heap.size w wr) ∧ Hid (∀ j (h : j < kk) (h' : j < ls.length), Cfg.lineOk ls[j] = true))
  case atStart => exact ⟨0, Nat.zero_le _, by omega, rfl, Below.refl _ w, fun j hj => absurd hj (Nat.not_lt_zero _)⟩
  case round =>
    obtain ⟨kk, hkk, hg, rfl, BW, AA⟩ := hrel
    by_cases hlt : kk < n
    · have hkl : kk < ls.length := by rw [← HN.out]; exact hlt
      obtain ⟨b, off, rfl, hb, hc⟩ := (HS.out.below BW.out).form (by rw [linesVs_length]; omega)
      obtain ⟨c0, c1, c2, c3, c4⟩ := line_cells hc kk hkl
      have hcall := bad_any ls[kk]
      have HK := hid (show Cfg.lineOk ls[kk] = Cfg.lineOk ls[kk] from rfl)
      generalize hl : ls[kk] = l at c0 c1 c2 c3 c4 hcall HK
      have HL := hid hl
      clear hl hc
      cases l with
      | mk st sg s0 s1 s2 =>
        simp only [lnA] at c0 c1 c2 c3 c4 hcall
        generalize hq : Cfg.lineOk ⟨st, sg, s0, s1, s2⟩ = q at hcall HK
        have HQ := hid hq
        clear hq HK
        have C := hid hcall
        clear hcall
        cases q with
        | true =>
          go_wp2_with (go_at_call 51; refine (C.out _).mono ?_; rintro r w' ⟨rfl, hb'⟩)
          go_roundg (n - (kk + 1))
          case measure => omega
          case rel =>
            refine ⟨kk + 1, by omega, by omega, by go_num, BW.out.trans (hb'.mono BW.out.size), (fun j hj hj' => ?_ : ∀ j (h : j < kk + 1) (h' : j < ls.length), Cfg.lineOk ls[j] = true)⟩
            by_cases e : j = kk
            · subst e
              rw [HL.out]; exact HQ.out
            · exact AA.out j (by omega) hj'
        | false =>
          go_wp2_with (go_at_call 51; refine (C.out _).mono ?_; rintro r w' ⟨rfl, hb'⟩)
          go_ret
          refine ⟨kk, rfl, ?_, BW.out.trans (hb'.mono BW.out.size)⟩
          have hany : ls.any (fun l => !Cfg.lineOk l) = true := List.any_eq_true.2 ⟨ls[kk], List.getElem_mem hkl, by rw [HL.out, HQ.out]; rfl⟩
          rw [hany]
          simp
    · have e : kk = n := by omega
      subst e
      go_wp2
      go_ret
      refine ⟨-1, rfl, ?_, BW.out⟩
      have hany : ls.any (fun l => !Cfg.lineOk l) = false := by
        rw [List.any_eq_false]
        intro l hl
        obtain ⟨j, hj, rfl⟩ := List.getElem_of_mem hl
        rw [AA.out j (by rw [HN.out]; exact hj) hj]
        simp
      rw [hany]
      simp
end Go.Proofs.YtlijncmjcecppaaDoor
