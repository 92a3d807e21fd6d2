/- Package delay by contracts: Table. -/
import Derived.Test.YtlijncmjcecppaaDoorCrossing
namespace Go.Proofs.YtlijncmjcecppaaDoor
open Go.RowKit

def Dly.rowVs (warn : Int) (l : Ln) : List Value := [.int .i64 (Dly.of1 l.strike warn l.s0), .int .i64 (Dly.of1 l.strike warn l.s1), .int .i64 (Dly.of1 l.strike warn l.s2)]
def Dly.tableVs (warn : Int) (ls : List Ln) : List Value := ls.flatMap (Dly.rowVs warn)
theorem Dly.tableVs_snoc (warn : Int) (ls : List Ln) (l : Ln) : Dly.tableVs warn (ls ++ [l]) = Dly.tableVs warn ls ++ Dly.rowVs warn l := by simp [Dly.tableVs]
theorem infoTrip : (Tryd.prog.info? 22).map (fun i => (i.zero, i.size, i.bytes)) = some (some (.agg #[.int .i64 0, .int .i64 0, .int .i64 0]), 3, 24) := by kernel_rfl

set_option maxHeartbeats 2000000 in
theorem table_ok (c : Cf) (A : Option Addr) (cap : Nat) (w : World) (hs : Sees w A (linesVs c.lines)) (hok : Cfg.ok c = true) :
    Calls Tryd.prog 28 #[cfV A c.lines.length cap c.times] w fun r w' =>
      ∃ v, r = .returned (.tuple #[v, .nilIface]) ∧ w'.ownsRow w.heap.size 22 3 v c.lines.length (Dly.tableVs c.times.warn c.lines) ∧ Below w.heap.size w w' := by
  obtain ⟨⟨_, h8⟩, ht, hl⟩ := (Cfg.ok_iff c).1 hok
  have HC := hid (fun W (h : Sees W A (linesVs c.lines)) => check_any c A cap W h (by omega))
  have HS := hid hs
  have hb := ht c.times.warn (by simp [Tm.nums])
  have HL := hid hl
  unfold Cfg.code at HC
  rw [hok] at HC
  simp only [if_true] at HC
  clear hok hs ht hl
  obtain ⟨i0, hi, hz0, hz1, hz2⟩ := info_parts infoTrip
  cases c with
  | mk ls t =>
    simp only at HC HS h8 hb HL
    obtain ⟨n, hn⟩ : ∃ n, n = ls.length := ⟨_, rfl⟩
    simp only
    rw [← hn] at h8 HC ⊢
    have HN := hid hn
    clear hn
    cases t with
    | mk a b c d e f g i j k =>
      simp only [cfV] at HC ⊢
      simp only at hb
      obtain ⟨k1, k2⟩ := hb
      go_enter Tryd.func28, Tryd.ntmps28
      go_wp2_with fail
      refine (HC.out _ (HS.out.alloc _)).mono ?_
      rintro r w2 ⟨x, rfl, hx, hb⟩
      obtain rfl := hx.nilOf
      have hbx := Box.below (Box.new w 39 #[.slice A n cap, .int .i64 a, .int .i64 b, .int .i64 c, .int .i64 d, .int .i64 e, .int .i64 f, .int .i64 g, .int .i64 i, .int .i64 j, .int .i64 k]) hb (by simp)
      have hcs : w2.cell? ⟨w.heap.size, 0, none⟩ = some (.slice A n cap) := (hbx.cell 0).trans rfl
      have B := hid (((Below.refl _ _).alloc (Nat.le_refl _) _).trans (hb.mono (by simp)))
      have BX := hid hbx
      clear hb hx hbx
      go_wp2_with fail
      go_loopg [5, 17] n (fun gg s5 s17 wr => ∃ (kk : Nat) (v : Value), kk ≤ n ∧ n - kk ≤ gg ∧ s17 = .int .i64 kk ∧ v = s5 ∧
        Hid (Below w.heap.size w wr ∧ Box wr w.heap.size 39 #[.slice A n cap, .int .i64 a, .int .i64 b, .int .i64 c, .int .i64 d, .int .i64 e, .int .i64 f, .int .i64 g, .int .i64 i, .int .i64 j, .int .i64 k] ∧
          wr.ownsRow w.heap.size 22 3 v kk (Dly.tableVs k (ls.take kk))))
      case atStart => exact ⟨0, .slice none 0 0, by omega, by omega, rfl, rfl, B.out, BX.out, World.ownsRow_nil _ _ _ _⟩
      case round =>
        obtain ⟨kk, v, hkk, hg, rfl, rfl, R⟩ := hrel
        by_cases hlt : kk < n
        · have hkl : kk < ls.length := by rw [← HN.out]; exact hlt
          obtain ⟨bb, off, rfl, _, hc⟩ := (HS.out.below R.out.1).form (by rw [linesVs_length]; omega)
          obtain ⟨c0, c1, c2, c3, c4⟩ := line_cells hc kk hkl
          have hline := (Cfg.lineOk_iff _).1 (HL.out _ (List.getElem_mem hkl))
          have htk := List.take_succ_eq_append_getElem hkl
          generalize ls[kk] = l at c0 c1 c2 c3 c4 hline htk
          have HTK := hid htk
          have hw : wr.cell? ⟨w.heap.size, 10, none⟩ = some (.int .i64 k) := (R.out.2.1.cell 10).trans rfl
          have hsz := R.out.2.1.lt
          clear hc htk
          cases l with
          | mk st sg s0 s1 s2 =>
            simp only at c0 c1 c2 c3 c4 hline
            obtain ⟨⟨g1, g2⟩, ⟨g3, g4⟩, ⟨g5, g6⟩, ⟨g7, g8⟩, g9, g10⟩ := hline
            have HOF := hid (fun W => of_any st sg s0 s1 s2 k W ⟨by omega, by omega⟩ ⟨by omega, by omega⟩ ⟨by omega, by omega⟩ ⟨by omega, by omega⟩ ⟨by omega, by omega⟩)
            obtain ⟨x0, e0⟩ : ∃ x, x = Dly.of1 st k s0 := ⟨_, rfl⟩
            obtain ⟨x1, e1⟩ : ∃ x, x = Dly.of1 st k s1 := ⟨_, rfl⟩
            obtain ⟨x2, e2⟩ : ∃ x, x = Dly.of1 st k s2 := ⟨_, rfl⟩
            rw [← e0, ← e1, ← e2] at HOF
            have E := hid (And.intro e0 (And.intro e1 e2))
            clear e0 e1 e2
            go_wp2_with fail
            refine (HOF.out _).mono ?_
            rintro r w3 ⟨rfl, hb3⟩
            have hb3' : Below wr.heap.size wr w3 := ((Below.refl _ _).alloc (Nat.le_refl _) _).trans (hb3.mono (by simp))
            have hown := own_below R.out.2.2 hb3'
            have hbx3 := R.out.2.1.below hb3' R.out.2.1.lt
            obtain ⟨A', cap', hv, _⟩ := own_form hown
            subst hv
            have HO := hid (hown.alloc (.cells #[.int .i64 x0, .int .i64 x1, .int .i64 x2] 22))
            have HBX := hid hbx3
            have HB := hid (R.out.1.trans (hb3'.mono R.out.1.size))
            clear hb3 hb3' hown hbx3 R c0 c1 c2 c3 c4 hw
            go_wp2_with (at_builtin; refine wpList_append_own_at _ rfl (.tmp 21) (.tmp 27) 57 rfl w.heap.size 22 i0 _ 3 24 Tryd.underlying57 hi hz0 hz1 hz2 rfl (by decide) _ _ _ rfl HO.out ⟨w3.heap.size, 0, none⟩ 1 1 [.int .i64 x0, .int .i64 x1, .int .i64 x2] rfl rfl (cells_new _ _ _) ?c2 ?c3 ?c4 ?c5 ?_)
            case c2 => intro u hu; simp at hu; rcases hu with rfl | rfl | rfl <;> rfl
            case c3 => unfold maxLen; omega
            case c4 => omega
            case c5 => have := HB.out.size; simp; omega
            intro v' w1 hown' hgrow _ _
            have hbo := (HBX.out.alloc (.cells #[.int .i64 x0, .int .i64 x1, .int .i64 x2] 22)).grown hgrow (own_ne_box HO.out (HBX.out.alloc _) (by decide))
            have hbel := (HB.out.alloc HB.out.size (.cells #[.int .i64 x0, .int .i64 x1, .int .i64 x2] 22)).grown hgrow (by simp; have := HB.out.size; omega) (fun k hk => (HO.out.lt k hk).1)
            obtain ⟨A', cap', hv, _⟩ := own_form hown'
            subst hv
            have HBO := hid hbo
            have HBE := hid hbel
            have HOW := hid hown'
            clear hbo hbel hown' hgrow HO HBX HB
            go_wp2
            go_roundg (n - (kk + 1))
            case measure => omega
            case rel =>
              refine ⟨kk + 1, _, by omega, by omega, by go_num, rfl, HBE.out, HBO.out, ?_⟩
              have e : Dly.tableVs k (ls.take (kk + 1)) = Dly.tableVs k (ls.take kk) ++ [.int .i64 x0, .int .i64 x1, .int .i64 x2] := by
                rw [HTK.out, Dly.tableVs_snoc, E.out.1, E.out.2.1, E.out.2.2]; rfl
              rw [e]
              exact HOW.out
        · have e : kk = n := by omega
          subst e
          clear hg hkk hlt
          have hown : wr.ownsRow w.heap.size 22 3 v kk (Dly.tableVs k ls) := by
            have := R.out.2.2
            rw [List.take_of_length_le (by rw [← HN.out]; exact Nat.le_refl _)] at this
            exact this
          have HO := hid hown
          clear hown
          go_wp2
          go_ret2
          exact ⟨_, rfl, HO.out, R.out.1⟩

theorem table_bad (c : Cf) (A : Option Addr) (cap : Nat) (w : World) (hs : Sees w A (linesVs c.lines)) (hbig : c.lines.length ≤ 1000000000000000) (hok : Cfg.ok c = false) :
    Calls Tryd.prog 28 #[cfV A c.lines.length cap c.times] w fun r w' =>
      ∃ x, r = .returned (.tuple #[.slice none 0 0, x]) ∧ ErrIs w' x 6 ∧ Below w.heap.size w w' := by
  have HC := hid (fun W (h : Sees W A (linesVs c.lines)) => check_any c A cap W h hbig)
  have HS := hid hs
  unfold Cfg.code at HC
  rw [hok] at HC
  simp only [Bool.false_eq_true, if_false] at HC
  clear hok hs
  cases c with
  | mk ls t =>
    simp only at HC HS hbig
    generalize ls.length = n at *
    simp only [cfV] at HC ⊢
    go_enter Tryd.func28, Tryd.ntmps28
    go_wp2_with fail
    refine (HC.out _ (HS.out.alloc _)).mono ?_
    rintro r w2 ⟨x, rfl, hx, hb⟩
    have hx' := hx
    obtain ⟨tx, y, rfl⟩ := hx'.ifaceOf (by omega)
    have B := hid hb
    have X := hid hx
    clear hb hx hx'
    go_wp2_with fail
    refine (wrap_any _ _ _ _ X.out).mono ?_
    rintro r w3 ⟨z, rfl, hz, _, hb3⟩
    go_wp2
    go_ret2
    exact ⟨z, rfl, hz, ((Below.refl _ _).alloc (Nat.le_refl _) _).trans ((B.out.trans (hb3.mono B.out.size)).mono (by simp))⟩
end Go.Proofs.YtlijncmjcecppaaDoor
