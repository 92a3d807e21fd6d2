/- crossbuckref08: times, Check by contracts. -/
import Derived.Test.YtlijncmjcecppaaDoorSmall8
import Derived.Test.YtlijncmjcecppaaDoorRefOpen
namespace Go.Proofs.YtlijncmjcecppaaDoor
open Go.RowKit

set_option maxRecDepth 100000 in
set_option maxHeartbeats 1000000 in
theorem refTimes_any (a b c d e f g i j k : Int) (w : World) :
    Calls Tryd.prog 39 #[.agg #[.int .i64 a, .int .i64 b, .int .i64 c, .int .i64 d, .int .i64 e, .int .i64 f, .int .i64 g, .int .i64 i, .int .i64 j, .int .i64 k]] w fun r w' =>
      r = .returned (.agg #[.int .i64 a, .int .i64 b, .int .i64 c, .int .i64 d, .int .i64 e, .int .i64 f, .int .i64 g, .int .i64 i, .int .i64 j, .int .i64 k]) ∧ Below w.heap.size w w' := by
  go_enter Tryd.func39, Tryd.ntmps39
  go_wp2
  refine bodyPost_ret (v := .agg #[.int .i64 a, .int .i64 b, .int .i64 c, .int .i64 d, .int .i64 e, .int .i64 f, .int .i64 g, .int .i64 i, .int .i64 j, .int .i64 k]) (by simp [results, Tryd.results39, go_sem]) rfl ⟨rfl, ?_⟩
  exact ((Below.refl _ _).alloc (Nat.le_refl _) _).alloc (by simp) _

def nA (t : Tm) : Array Value := #[.int .i64 t.amber, .int .i64 t.red, .int .i64 t.entry, .int .i64 t.travel, .int .i64 t.prove, .int .i64 t.opened, .int .i64 t.override, .int .i64 t.fresh, .int .i64 t.approach, .int .i64 t.warn]
theorem nA_at {w : World} {g : Nat} {ty : TypeId} {t : Tm} (h : Box w g ty (nA t)) (k : Nat) (hk : k < 10) : w.cell? ⟨g, k, none⟩ = some (.int .i64 (t.nums[k]'(by rw [Tm.nums_length]; exact hk))) := by
  rw [h.cell]
  match k, hk with
  | 0, _ => rfl
  | 1, _ => rfl
  | 2, _ => rfl
  | 3, _ => rfl
  | 4, _ => rfl
  | 5, _ => rfl
  | 6, _ => rfl
  | 7, _ => rfl
  | 8, _ => rfl
  | 9, _ => rfl
def Cfg.tOk (t : Tm) (k : Nat) : Bool := (t.nums.take k).all fun n => Cfg.inB n 1 6000
theorem Cfg.tOk_succ (t : Tm) (k : Nat) (hk : k < t.nums.length) : Cfg.tOk t (k + 1) = (Cfg.tOk t k && Cfg.inB t.nums[k] 1 6000) := by
  unfold Cfg.tOk
  rw [List.take_succ_eq_append_getElem hk, List.all_append]
  simp
theorem Cfg.tOk_all (t : Tm) : Cfg.tOk t 10 = Cfg.timesOk t := by
  unfold Cfg.tOk Cfg.timesOk
  rw [List.take_of_length_le (by rw [Tm.nums_length]; omega)]
def Cfg.lOk (ls : List Ln) (k : Nat) : Bool := (ls.take k).all Cfg.lineOk
theorem Cfg.lOk_succ (ls : List Ln) (k : Nat) (hk : k < ls.length) : Cfg.lOk ls (k + 1) = (Cfg.lOk ls k && Cfg.lineOk ls[k]) := by
  unfold Cfg.lOk
  rw [List.take_succ_eq_append_getElem hk, List.all_append]
  simp
theorem all_false_of {α : Type} {p : α → Bool} {l : List α} {k : Nat} (hk : k < l.length) (h : p l[k] = false) : l.all p = false := List.all_eq_false.2 ⟨l[k], List.getElem_mem hk, by rw [h]; simp⟩

set_option maxRecDepth 100000 in
set_option maxHeartbeats 4000000 in
theorem refCheck_any (c : Cf) (A : Option Addr) (cap : Nat) (w : World) (hs : Sees w A (linesVs c.lines)) (hbig : c.lines.length ≤ 1000000000000000) :
    Calls Tryd.prog 24 #[cfV A c.lines.length cap c.times] w fun r w' => r = .returned (.int .i64 (Cfg.code c)) ∧ Below w.heap.size w w' := by
  have HS := hid hs
  have HC1 := hid (show ∀ k (h : k < c.times.nums.length), Cfg.inB c.times.nums[k] 1 6000 = false → Cfg.code c = 6 from fun k h hf => by
    have : Cfg.timesOk c.times = false := all_false_of h hf
    unfold Cfg.code Cfg.ok
    rw [this]
    simp)
  have HC2 := hid (show ∀ k (h : k < c.lines.length), Cfg.lineOk c.lines[k] = false → Cfg.code c = 6 from fun k h hf => by
    have : c.lines.all Cfg.lineOk = false := all_false_of h hf
    unfold Cfg.code Cfg.ok
    rw [this]
    simp)
  have HC3 := hid (show Cfg.tOk c.times 10 = true → Cfg.lOk c.lines c.lines.length = true → Cfg.code c = if (Cfg.inB c.lines.length 1 8) = true then 0 else 6 from fun h1 h2 => by
    rw [Cfg.tOk_all] at h1
    unfold Cfg.lOk at h2
    rw [List.take_of_length_le (Nat.le_refl _)] at h2
    unfold Cfg.code Cfg.ok
    rw [h1, h2]
    simp)
  have HT := hid (fun (W : World) (g : Nat) (ty : TypeId) h k hk => nA_at (w := W) (g := g) (ty := ty) (t := c.times) h k hk)
  have HTs := hid (Cfg.tOk_succ c.times)
  have HLs := hid (Cfg.lOk_succ c.lines)
  have BXa := hid (Box.new w 39 (cfR A c.lines.length cap c.times))
  clear hs
  generalize Cfg.code c = cd at HC1 HC2 HC3 ⊢
  obtain ⟨n, hn⟩ : ∃ n, n = c.lines.length := ⟨_, rfl⟩
  have HN := hid hn
  simp only [cfV]
  simp only [cfR] at BXa
  rw [← hn] at hbig HC3 BXa ⊢
  clear hn
  go_enter Tryd.func24, Tryd.ntmps24
  go_wp2_with fail
  refine (refTimes_any _ _ _ _ _ _ _ _ _ _ _).mono ?_
  rintro r w2 ⟨rfl, hb2⟩
  have BX2 := hid (BXa.out.below hb2 BXa.out.lt)
  have HB2 := hid (((Below.refl w.heap.size w).alloc (Nat.le_refl _) _).trans (hb2.mono (by simp)))
  clear hb2 BXa
  go_wp2_with fail
  obtain ⟨w3, hw3⟩ : ∃ W, W = w2.alloc (.cells #[.int .i64 c.times.amber, .int .i64 c.times.red, .int .i64 c.times.entry, .int .i64 c.times.travel, .int .i64 c.times.prove, .int .i64 c.times.opened, .int .i64 c.times.override, .int .i64 c.times.fresh, .int .i64 c.times.approach, .int .i64 c.times.warn] 78) := ⟨_, rfl⟩
  have BX3 := hid (show Box w3 w.heap.size 39 #[.slice A n cap, .int .i64 c.times.amber, .int .i64 c.times.red, .int .i64 c.times.entry, .int .i64 c.times.travel, .int .i64 c.times.prove, .int .i64 c.times.opened, .int .i64 c.times.override, .int .i64 c.times.fresh, .int .i64 c.times.approach, .int .i64 c.times.warn] by rw [hw3]; exact BX2.out.alloc _)
  have M3 := hid (show Box w3 w2.heap.size 78 (nA c.times) by rw [hw3]; exact Box.new _ _ _)
  have HB3 := hid (show Below w.heap.size w w3 by rw [hw3]; exact HB2.out.alloc HB2.out.size _)
  rw [← hw3]
  clear hw3 BX2 HB2
  go_loopg [4] 10 (fun gg s4 wr => ∃ kk : Nat, kk ≤ 10 ∧ 10 - kk ≤ gg ∧ s4 = .int .i64 kk ∧ w3 = wr ∧ Hid (Cfg.tOk c.times kk = true))
  case atStart => exact ⟨0, by omega, by omega, rfl, rfl, rfl⟩
  case round =>
    obtain ⟨kk, hkk, hg, rfl, rfl, HO⟩ := hrel
    by_cases hlt : kk < 10
    · have hc := HT.out w3 _ _ M3.out kk hlt
      have hf := HC1.out kk (by rw [Tm.nums_length]; exact hlt)
      have hsu := HTs.out kk (by rw [Tm.nums_length]; exact hlt)
      generalize c.times.nums[kk]'(by rw [Tm.nums_length]; exact hlt) = v at hc hf hsu
      have hor : (decide (v < 1) = true ∧ Cfg.inB v 1 6000 = false) ∨ (decide (v < 1) = false ∧ decide (6000 < v) = true ∧ Cfg.inB v 1 6000 = false) ∨ (decide (v < 1) = false ∧ decide (6000 < v) = false ∧ Cfg.inB v 1 6000 = true) := by
        unfold Cfg.inB
        simp only [decide_eq_true_eq, decide_eq_false_iff_not, Bool.and_eq_true, Bool.and_eq_false_iff]
        omega
      have HF := hid hf
      have HSU := hid hsu
      clear hf hsu
      rcases hor with ⟨g1, g2⟩ | ⟨g1, g2, g3⟩ | ⟨g1, g2, g3⟩
      · have e := HF.out g2
        subst e
        clear g2
        go_wp2
        go_ret
        exact ⟨rfl, HB3.out⟩
      · have e := HF.out g3
        subst e
        clear g3
        go_wp2
        go_ret
        exact ⟨rfl, HB3.out⟩
      · have G3 := hid g3
        clear g3
        go_wp2
        go_roundg (10 - (kk + 1))
        case measure => omega
        case rel => exact ⟨kk + 1, by omega, by omega, by go_num, rfl, by rw [HSU.out, HO.out, G3.out]; rfl⟩
    · have e : kk = 10 := by omega
      subst e
      clear hg hkk hlt HC1 HT HTs M3
      go_wp2_with fail
      go_loopg [5, 6, 7] n (fun gg s5 _ _ wr => ∃ kk : Nat, kk ≤ n ∧ n - kk ≤ gg ∧ s5 = .int .i64 kk ∧ Hid (Below w3.heap.size w3 wr ∧ Cfg.lOk c.lines kk = true))
      case atStart => exact ⟨0, by omega, by omega, rfl, Below.refl _ _, rfl⟩
      case round =>
        obtain ⟨kk, hkk, hg, rfl, HR⟩ := hrel
        have BXr := hid (BX3.out.below HR.out.1 BX3.out.lt)
        have cA := (BXr.out.cell 0).trans (show _ = some (.slice A n cap) from rfl)
        have hBr := BXr.out.lt
        by_cases hlt : kk < n
        · have hkl : kk < c.lines.length := by rw [← HN.out]; exact hlt
          obtain ⟨bb, off, rfl, _, hc⟩ := ((HS.out.below HB3.out).below HR.out.1).form (by rw [linesVs_length]; omega)
          obtain ⟨c0, c1, c2, c3, c4⟩ := line_cells hc kk hkl
          have hf := HC2.out kk hkl
          have hsu := HLs.out kk hkl
          generalize c.lines[kk] = l at c0 c1 c2 c3 c4 hf hsu
          clear hc
          obtain ⟨st, sg, s0, s1, s2⟩ := l
          simp only at c0 c1 c2 c3 c4
          have HF := hid hf
          have HSU := hid hsu
          clear hf hsu
          have hlo : Cfg.lineOk ⟨st, sg, s0, s1, s2⟩ = decide ((1 ≤ s0 ∧ s0 ≤ 5000) ∧ (1 ≤ s1 ∧ s1 ≤ 5000) ∧ (1 ≤ s2 ∧ s2 ≤ 5000) ∧ (2 ≤ st ∧ st ≤ 1000000) ∧ 1 ≤ sg ∧ sg ≤ st - 1) := by
            rw [Bool.eq_iff_iff, Cfg.lineOk_iff]
            simp
          have hh : (decide (sg < 1) = true) ∨ (decide (sg < 1) = false ∧ decide (st ≤ sg) = true) ∨ (decide (sg < 1) = false ∧ decide (st ≤ sg) = false ∧ decide (1000000 < st) = true) ∨ (decide (sg < 1) = false ∧ decide (st ≤ sg) = false ∧ decide (1000000 < st) = false) := by
            cases decide (sg < 1) <;> cases decide (st ≤ sg) <;> cases decide (1000000 < st) <;> simp
          rcases hh with h1 | ⟨h1, h2⟩ | ⟨h1, h2, h3⟩ | ⟨h1, h2, h3⟩
          · have e := HF.out (by rw [hlo]; refine decide_eq_false fun q => ?_; have := of_decide_eq_true h1; omega)
            subst e
            clear hlo
            go_wp2
            go_ret
            exact ⟨rfl, HB3.out.trans ((HR.out.1.mono HB3.out.size).alloc (by have := HB3.out.size; have := HR.out.1.size; omega) _)⟩
          · have e := HF.out (by rw [hlo]; refine decide_eq_false fun q => ?_; have := of_decide_eq_true h2; omega)
            subst e
            clear hlo
            go_wp2
            go_ret
            exact ⟨rfl, HB3.out.trans ((HR.out.1.mono HB3.out.size).alloc (by have := HB3.out.size; have := HR.out.1.size; omega) _)⟩
          · have e := HF.out (by rw [hlo]; refine decide_eq_false fun q => ?_; have := of_decide_eq_true h3; omega)
            subst e
            clear hlo
            go_wp2
            go_ret
            exact ⟨rfl, HB3.out.trans ((HR.out.1.mono HB3.out.size).alloc (by have := HB3.out.size; have := HR.out.1.size; omega) _)⟩
          · have p1 : (decide (s0 < 1) = true ∨ (decide (s0 < 1) = false ∧ decide (5000 < s0) = true)) ∨ (decide (s0 < 1) = false ∧ decide (5000 < s0) = false) := by
              cases decide (s0 < 1) <;> cases decide (5000 < s0) <;> simp
            have p2 : (decide (s1 < 1) = true ∨ (decide (s1 < 1) = false ∧ decide (5000 < s1) = true)) ∨ (decide (s1 < 1) = false ∧ decide (5000 < s1) = false) := by
              cases decide (s1 < 1) <;> cases decide (5000 < s1) <;> simp
            have p3 : (decide (s2 < 1) = true ∨ (decide (s2 < 1) = false ∧ decide (5000 < s2) = true)) ∨ (decide (s2 < 1) = false ∧ decide (5000 < s2) = false) := by
              cases decide (s2 < 1) <;> cases decide (5000 < s2) <;> simp
            have HP2 := hid p2
            have HP3 := hid p3
            clear p2 p3
            have HLO := hid hlo
            clear hlo
            rcases p1 with p1 | ⟨q1, q1'⟩
            · have e := HF.out (by rw [HLO.out]; refine decide_eq_false fun q => ?_; simp only [decide_eq_true_eq, decide_eq_false_iff_not] at p1; omega)
              subst e
              rcases p1 with p1 | ⟨p1, p1'⟩
              all_goals
                go_wp2_with fail
                refine wp_loop_rounds 4 ?_
                rw [rounds_succ]
                go_wp2
                go_ret
                exact ⟨rfl, HB3.out.trans ((HR.out.1.mono HB3.out.size).alloc (by have := HB3.out.size; have := HR.out.1.size; omega) _)⟩
            · rcases HP2.out with p2 | ⟨q2, q2'⟩
              · have e := HF.out (by rw [HLO.out]; refine decide_eq_false fun q => ?_; simp only [decide_eq_true_eq, decide_eq_false_iff_not] at p2; omega)
                subst e
                rcases p2 with p2 | ⟨p2, p2'⟩
                all_goals
                  go_wp2_with fail
                  refine wp_loop_rounds 4 ?_
                  rw [rounds_succ]
                  go_wp2_with fail
                  rw [rounds_succ]
                  go_wp2
                  go_ret
                  exact ⟨rfl, HB3.out.trans ((HR.out.1.mono HB3.out.size).alloc (by have := HB3.out.size; have := HR.out.1.size; omega) _)⟩
              · rcases HP3.out with p3 | ⟨q3, q3'⟩
                · have e := HF.out (by rw [HLO.out]; refine decide_eq_false fun q => ?_; simp only [decide_eq_true_eq, decide_eq_false_iff_not] at p3; omega)
                  subst e
                  rcases p3 with p3 | ⟨p3, p3'⟩
                  all_goals
                    go_wp2_with fail
                    refine wp_loop_rounds 4 ?_
                    rw [rounds_succ]
                    go_wp2_with fail
                    rw [rounds_succ]
                    go_wp2_with fail
                    rw [rounds_succ]
                    go_wp2
                    go_ret
                    exact ⟨rfl, HB3.out.trans ((HR.out.1.mono HB3.out.size).alloc (by have := HB3.out.size; have := HR.out.1.size; omega) _)⟩
                · have G := hid (show Cfg.lineOk ⟨st, sg, s0, s1, s2⟩ = true by
                    rw [HLO.out]
                    refine decide_eq_true ?_
                    simp only [decide_eq_false_iff_not] at h1 h2 h3 q1 q1' q2 q2' q3 q3'
                    omega)
                  go_wp2_with fail
                  refine wp_loop_rounds 4 ?_
                  rw [rounds_succ]
                  go_wp2_with fail
                  rw [rounds_succ]
                  go_wp2_with fail
                  rw [rounds_succ]
                  go_wp2_with fail
                  rw [rounds_succ]
                  go_wp2_with fail
                  go_roundg (n - (kk + 1))
                  case measure => omega
                  case rel => exact ⟨kk + 1, by omega, by omega, by go_num, HR.out.1.alloc HR.out.1.size _, by rw [HSU.out, HR.out.2, G.out]; rfl⟩
        · have e : kk = n := by omega
          subst e
          have hfin := HC3.out HO.out HR.out.2
          have HFi := hid hfin
          clear hfin hg hkk hlt HC3
          have hor : (decide ((kk : Int) < 1) = true ∧ Cfg.inB (kk : Int) 1 8 = false) ∨ (decide ((kk : Int) < 1) = false ∧ decide (8 < (kk : Int)) = true ∧ Cfg.inB (kk : Int) 1 8 = false) ∨ (decide ((kk : Int) < 1) = false ∧ decide (8 < (kk : Int)) = false ∧ Cfg.inB (kk : Int) 1 8 = true) := by
            unfold Cfg.inB
            simp only [decide_eq_true_eq, decide_eq_false_iff_not, Bool.and_eq_true, Bool.and_eq_false_iff]
            omega
          rcases hor with ⟨g1, g2⟩ | ⟨g1, g2, g3⟩ | ⟨g1, g2, g3⟩
          · have e : cd = 6 := by rw [HFi.out, g2]; rfl
            subst e
            clear g2
            go_wp2
            go_ret
            exact ⟨rfl, HB3.out.trans (HR.out.1.mono HB3.out.size)⟩
          · have e : cd = 6 := by rw [HFi.out, g3]; rfl
            subst e
            clear g3
            go_wp2
            go_ret
            exact ⟨rfl, HB3.out.trans (HR.out.1.mono HB3.out.size)⟩
          · have e : cd = 0 := by rw [HFi.out, g3]; rfl
            subst e
            clear g3
            go_wp2
            go_ret
            exact ⟨rfl, HB3.out.trans (HR.out.1.mono HB3.out.size)⟩
end Go.Proofs.YtlijncmjcecppaaDoor
