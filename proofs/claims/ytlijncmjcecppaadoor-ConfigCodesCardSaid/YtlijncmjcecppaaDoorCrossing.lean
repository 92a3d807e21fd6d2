/- The statements' own crossing of n tracks, by contract. -/
import Derived.Test.YtlijncmjcecppaaDoorBound
import Derived.Deep.Cut
namespace Go.Proofs.YtlijncmjcecppaaDoor
open Go.RowKit

def ln0 : Ln := { strike := 1000, signal := 500, s0 := 10, s1 := 20, s2 := 40 }
def tm0 (t : Int) : Tm := { amber := t, red := t, entry := t, travel := t, prove := t, opened := t, override := t, fresh := t, approach := t, warn := t }
def cf0 (n : Nat) (t : Int) : Cf := { lines := List.replicate n ln0, times := tm0 t }
theorem linesVs_snoc (ls : List Ln) (l : Ln) : linesVs (ls ++ [l]) = linesVs ls ++ lnVs l := by simp [linesVs]
theorem infoLine : (Tryd.prog.info? 24).map (fun i => (i.zero, i.size, i.bytes)) = some (some (.agg #[.int .i64 0, .int .i64 0, .int .i64 0, .int .i64 0, .int .i64 0]), 5, 40) := by kernel_rfl

set_option maxHeartbeats 1000000 in
theorem crossing_any (n : Nat) (t : Int) (w : World) (hn : n ≤ 100) :
    Calls Tryd.prog 26 #[.int .i64 n, .int .i64 t] w fun r w' =>
      ∃ A cap, r = .returned (cfV A (cf0 n t).lines.length cap (cf0 n t).times) ∧ Sees w' A (linesVs (cf0 n t).lines) ∧ Below w.heap.size w w' := by
  have elen : (cf0 n t).lines.length = n := List.length_replicate ..
  rw [elen]
  obtain ⟨i0, hi, hz0, hz1, hz2⟩ := info_parts infoLine
  go_enter Tryd.func26, Tryd.ntmps26
  go_wp2_with fail
  go_loopg [6] n (fun gg s6 wr => ∃ (k : Nat) (v : Value), k ≤ n ∧ n - k ≤ gg ∧ s6 = .int .i64 k ∧
    Hid (Below w.heap.size w wr ∧ Box wr w.heap.size 39 #[.slice none 0 0, .int .i64 0, .int .i64 0, .int .i64 0, .int .i64 0, .int .i64 0, .int .i64 0, .int .i64 0, .int .i64 0, .int .i64 0, .int .i64 0] ∧
      Box wr (w.heap.size + 1) 39 #[v, .int .i64 t, .int .i64 t, .int .i64 t, .int .i64 t, .int .i64 t, .int .i64 t, .int .i64 t, .int .i64 t, .int .i64 t, .int .i64 t] ∧ wr.ownsRow (w.heap.size + 2) 24 5 v k (linesVs (List.replicate k ln0))))
  case atStart =>
    refine ⟨0, .slice none 0 0, by omega, by omega, rfl, ?_⟩
    have h1 := Box.new w 39 #[.slice none 0 0, .int .i64 0, .int .i64 0, .int .i64 0, .int .i64 0, .int .i64 0, .int .i64 0, .int .i64 0, .int .i64 0, .int .i64 0, .int .i64 0]
    have h2 := Box.new (w.alloc (.cells #[.slice none 0 0, .int .i64 0, .int .i64 0, .int .i64 0, .int .i64 0, .int .i64 0, .int .i64 0, .int .i64 0, .int .i64 0, .int .i64 0, .int .i64 0] 39)) 39 #[.slice none 0 0, .int .i64 t, .int .i64 t, .int .i64 t, .int .i64 t, .int .i64 t, .int .i64 t, .int .i64 t, .int .i64 t, .int .i64 t, .int .i64 t]
    rw [World.size_alloc] at h2
    exact ⟨((Below.refl _ _).alloc (Nat.le_refl _) _).alloc (by simp) _, h1.alloc _, h2, World.ownsRow_nil _ _ _ _⟩
  case round =>
    obtain ⟨k, v, hk, hg, rfl, R⟩ := hrel
    obtain ⟨hB, hb0, hb1, hown⟩ := R.out
    by_cases hlt : k < n
    · obtain ⟨A, cap, rfl, _⟩ := own_form hown
      have hc := (hb1.cell 0).trans (show _ = some (.slice A k cap) from rfl)
      have hne := own_ne_box hown hb1 (by decide)
      have h0 := hown.alloc (.cells #[.int .i64 1000, .int .i64 500, .int .i64 10, .int .i64 20, .int .i64 40] 24)
      have hsz := hb1.lt
      have HO := hid h0
      have HB := hid hB
      have H0 := hid hb0
      have H1 := hid hb1
      have HN := hid hne
      clear h0 hB hb0 hb1 hne hown R
      go_wp2_with (at_builtin; refine wpList_append_own_at _ rfl (.tmp 25) (.tmp 28) 35 rfl (w.heap.size + 2) 24 i0 _ 5 40 Tryd.underlying35 hi hz0 hz1 hz2 rfl (by decide) _ _ _ rfl HO.out ⟨wr.heap.size, 0, none⟩ 1 1 (lnVs ln0) rfl rfl (cells_new _ _ _) ?c2 ?c3 ?c4 ?c5 ?_)
      case c2 => intro u hu; simp [lnVs, lnA] at hu; rcases hu with rfl | rfl | rfl | rfl | rfl <;> rfl
      case c3 => unfold maxLen; omega
      case c4 => omega
      case c5 => simp; omega
      intro v' w1 hown' hgrow _ hat
      have hbx := (H1.out.alloc (.cells #[.int .i64 1000, .int .i64 500, .int .i64 10, .int .i64 20, .int .i64 40] 24)).grown hgrow HN.out
      have hbo := (H0.out.alloc (.cells #[.int .i64 1000, .int .i64 500, .int .i64 10, .int .i64 20, .int .i64 40] 24)).grown hgrow (own_ne_box HO.out (H0.out.alloc _) (by decide))
      have hbel := (HB.out.alloc HB.out.size (.cells #[.int .i64 1000, .int .i64 500, .int .i64 10, .int .i64 20, .int .i64 40] 24)).grown hgrow (by simp; have := HB.out.size; omega) (fun k hk => by have := (HO.out.lt k hk).1; omega)
      obtain ⟨A', cap', rfl, _⟩ := own_form hown'
      have hc1 := (hbx.cell 0).trans (show _ = some (.slice A k cap) from rfl)
      have hf1 := hbx.frozen 0
      have HBX := hid hbx
      have HBO := hid hbo
      have HBE := hid hbel
      have HOW := hid hown'
      have HN2 := hid (own_ne_box hown' hbx (by decide))
      clear hbx hbo hbel hown' hgrow hat hc
      go_wp2
      go_roundg (n - (k + 1))
      case measure => omega
      case rel =>
        refine ⟨k + 1, _, by omega, by omega, by go_num, HBE.out.setCell (by simp) _, HBO.out.aside (by simp) _, HBX.out.store 0 _, ?_⟩
        have e : linesVs (List.replicate (k + 1) ln0) = linesVs (List.replicate k ln0) ++ lnVs ln0 := by rw [List.replicate_succ', linesVs_snoc]
        rw [e]
        exact own_aside HOW.out HN2.out _
    · have e : k = n := by omega
      subst e
      obtain ⟨A, cap, rfl, _⟩ := own_form hown
      have HE := hid (And.intro hown hB)
      have HL := hid hb0.lt
      have HB0 := hid hb0
      have HB1 := hid hb1
      clear hB hown R hg hk hlt hb0 hb1 elen
      go_upto_region 6 with (fail)
      go_step
      with_reducible refine wpList_load_row rfl 39 (.tmp 5) rfl (w.heap.size + 1) ?_ _ _ _ _ HB1.out.heap Tryd.underlying39 ?_ ?_ ?_
      · rfl
      · rfl
      · kernel_rfl
      with_reducible refine wpList_store_row rfl 39 (.tmp 4) (.tmp 31) rfl w.heap.size #[.slice A k cap, .int .i64 t, .int .i64 t, .int .i64 t, .int .i64 t, .int .i64 t, .int .i64 t, .int .i64 t, .int .i64 t, .int .i64 t, .int .i64 t] ?_ ?_ _ _ HB0.out.heap ?_ ?_ ?_ ?_
      · rfl
      · rfl
      · kernel_rfl
      · rfl
      · simp [Value.oneCell']
      go_wp2
      refine bodyPost_ret (v := cfV A k cap (tm0 t)) (results_cell_row rfl _ _ w.heap.size _ _ _ _ rfl (HB0.out.row _) Tryd.underlying39 rfl (by kernel_rfl)) rfl ⟨A, cap, rfl, ?_, ?_⟩
      · refine Sees.own (own_kept HE.out.1 (grown_keep (grown_setRow wr w.heap.size _)) ?_)
        intro g h1 h2
        have h3 := (HE.out.1.lt g h1).1
        injection h2 with h2
        omega
      · exact HE.out.2.grown (grown_setRow wr w.heap.size _) HE.out.2.size (fun k hk => by injection hk with hk; omega)
end Go.Proofs.YtlijncmjcecppaaDoor
