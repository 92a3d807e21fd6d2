/- ConfigTurned by contracts. -/
import Derived.Test.YtlijncmjcecppaaDoorSmall8
namespace Go.Proofs.YtlijncmjcecppaaDoor
open Go.RowKit

theorem ofInt8 (a : Nat) (ha : a < 256) : (BitVec.ofInt 8 (a : Int)).toNat = a := by
  rw [BitVec.ofInt_natCast, BitVec.toNat_ofNat]; exact Nat.mod_eq_of_lt ha
theorem u8_xor (a b : UInt8) : bits .xor .u8 (a.toNat : Int) (b.toNat : Int) = ((a ^^^ b).toNat : Nat) := by
  have ha := Crc.byte_lt a
  have hb := Crc.byte_lt b
  have hx := Crc.byte_lt (a ^^^ b)
  show IntKind.u8.wrap ((BitVec.ofInt 8 (a.toNat : Int) ^^^ BitVec.ofInt 8 (b.toNat : Int)).toNat : Int) = _
  rw [BitVec.toNat_xor, ofInt8 _ ha, ofInt8 _ hb]
  rw [show (a ^^^ b).toNat = a.toNat ^^^ b.toNat from UInt8.toNat_xor a b] at hx ⊢
  rw [IntKind.wrap_u8]
  omega
theorem xor_ne (a b : UInt8) (h : b.toNat ≠ 0) : a ^^^ b ≠ a := by
  intro e
  have : b = 0 := by
    have := congrArg (fun x => a ^^^ x) e
    simpa [← UInt8.xor_assoc] using this
  subst this
  exact h rfl
theorem byteVs_set (l : List UInt8) (k : Nat) (c : UInt8) : (byteVs l).set k (.int .u8 (c.toNat : Nat)) = byteVs (l.set k c) := by simp [byteVs, List.map_set]
/-- A slice of bytes that is new since w0: its form. -/
theorem out_block {w0 w : World} {v : Value} {n : Nat} {xs : List Value} {e : TypeId} {size : Nat} (h : Out w0 w e size v n xs) (hn : 0 < n) : ∃ g cap, v = .slice (some ⟨g, 0, none⟩) n cap ∧ w0.heap.size ≤ g := by
  rcases h.1.2 with ⟨_, h0⟩ | ⟨g, cap, cur, rfl, hb, _⟩
  · omega
  · exact ⟨g, cap, rfl, hb⟩
theorem out_byte_at {w0 w : World} {g n cap : Nat} {l : List UInt8} (h : Out w0 w 5 1 (.slice (some ⟨g, 0, none⟩) n cap) n (byteVs l)) (k : Nat) (hk : k < l.length) : w.cell? ⟨g, k, none⟩ = some (.int .u8 (l[k].toNat : Nat)) ∧ w.frozen? ⟨g, k, none⟩ = false := by
  have hl := h.1.1
  rw [byteVs_length] at hl
  exact ⟨(h.1.cellAt k (by omega)).trans (byteVs_at hk), h.1.frozenAt k⟩
theorem out_byte_set {w0 w : World} {g n cap : Nat} {l : List UInt8} (h : Out w0 w 5 1 (.slice (some ⟨g, 0, none⟩) n cap) n (byteVs l)) (k : Nat) (c : UInt8) (hg : w0.heap.size ≤ g) : Out w0 (w.setCell ⟨g, k, none⟩ (.int .u8 (c.toNat : Nat))) 5 1 (.slice (some ⟨g, 0, none⟩) n cap) n (byteVs (l.set k c)) := by
  obtain ⟨h1, h2⟩ := h.1.stored k (.int .u8 (c.toNat : Nat))
  rw [byteVs_set] at h1
  exact ⟨h1, h.2.grown h2 h.le (fun j e => by injection e with e; omega)⟩

theorem cells_cfR {w : World} {g : Nat} {t' : TypeId} {A : Option Addr} {n cap : Nat} {t : Tm} (h : Box w g t' (cfR A n cap t)) : w.cell? ⟨g, 0, none⟩ = some (.slice A n cap) := (h.cell 0).trans rfl

set_option maxHeartbeats 1000000 in
theorem turned_skip (A : Option Addr) (n cap : Nat) (t : Tm) (k b : Int) (w : World) (hg : ErrTypeAt w) (h : decide (20 < (n : Int)) = true ∨ (decide (20 < (n : Int)) = false ∧ (b == 0) = true)) :
    Calls Tryd.prog 8 #[cfV A n cap t, .int .i64 k, .int .u8 b] w fun r w' => r = .returned (.bool true) ∧ Below w.heap.size w w' := by
  have HG := hid hg
  have BX := hid (Box.new w 39 (cfR A n cap t))
  have BB := hid ((Below.refl w.heap.size w).alloc (Nat.le_refl _) (.cells (cfR A n cap t) 39))
  clear hg
  rw [cfR_eq]
  rcases h with h | ⟨h, h'⟩
  all_goals
    go_enter Tryd.func8, Tryd.ntmps8
    go_wp2_with fail
    refine (small8_any _ (HG.out.keepTo BB.out)).mono ?_
    rintro r w1 ⟨rfl, hb1⟩
    have hc := cells_cfR (BX.out.below hb1 BX.out.lt)
    have H1 := hid (BB.out.trans (hb1.mono (by simp)))
    clear hb1
    go_wp2
    go_ret
    exact ⟨rfl, H1.out⟩

set_option maxHeartbeats 1000000 in
theorem turned_bad (c : Cf) (A : Option Addr) (cap : Nat) (k b : Int) (w : World) (hg : ErrTypeAt w) (hs : Sees w A (linesVs c.lines)) (hok : Cfg.ok c = false) (h : decide (20 < (c.lines.length : Int)) = false) (h' : (b == 0) = false) :
    Calls Tryd.prog 8 #[cfV A c.lines.length cap c.times, .int .i64 k, .int .u8 b] w fun r w' => r = .returned (.bool true) ∧ Below w.heap.size w w' := by
  have HG := hid hg
  have HE := hid (fun W (h : Sees W A (linesVs c.lines)) => encode_bad c A cap W h (by simp at *; omega) hok)
  have HS := hid hs
  clear hg hok hs
  rw [cfR_eq] at HE ⊢
  generalize c.lines.length = n at *
  have BX := hid (Box.new w 39 (cfR A n cap c.times))
  have BB := hid ((Below.refl w.heap.size w).alloc (Nat.le_refl _) (.cells (cfR A n cap c.times) 39))
  go_enter Tryd.func8, Tryd.ntmps8
  go_wp2_with fail
  refine (small8_any _ (HG.out.keepTo BB.out)).mono ?_
  rintro r w1 ⟨rfl, hb1⟩
  have B1 := hid (BX.out.below hb1 BX.out.lt)
  have hc := cells_cfR B1.out
  have H1 := hid (BB.out.trans (hb1.mono (by simp)))
  clear hb1 BB BX
  go_wp2_with ((with_reducible refine wp_loadRow rfl 39 (.tmp 3) rfl B1 ?_ ?_ ?_); exact sConfig; rfl)
  refine (HE.out _ (HS.out.below H1.out)).mono ?_
  rintro r w2 ⟨e, rfl, he, hb2⟩
  obtain ⟨te, ye, rfl⟩ := he.ifaceOf (by omega)
  have H2 := hid (H1.out.trans (hb2.mono H1.out.size))
  clear he hb2 H1 hc B1
  go_wp2
  go_ret
  exact ⟨rfl, H2.out⟩

set_option maxHeartbeats 1000000 in
theorem turned_far (c : Cf) (A : Option Addr) (cap : Nat) (k b : Int) (w : World) (hg : ErrTypeAt w) (hs : Sees w A (linesVs c.lines)) (hok : Cfg.ok c = true) (h' : (b == 0) = false) (hk : decide (k < 0) = true ∨ (decide (k < 0) = false ∧ decide ((26 : Int) + 14 * (c.lines.length : Int) ≤ k) = true)) :
    Calls Tryd.prog 8 #[cfV A c.lines.length cap c.times, .int .i64 k, .int .u8 b] w fun r w' => r = .returned (.bool true) ∧ Below w.heap.size w w' := by
  have HG := hid hg
  have HE := hid (fun W (h : Sees W A (linesVs c.lines)) => encode_ok c A cap W h hok)
  have h8 := ((Cfg.ok_iff c).1 hok).1.2
  have HS := hid hs
  clear hg hok hs
  rw [cfR_eq] at HE ⊢
  generalize c.lines.length = n at *
  have h : decide (20 < (n : Int)) = false := by simp; omega
  have BX := hid (Box.new w 39 (cfR A n cap c.times))
  have BB := hid ((Below.refl w.heap.size w).alloc (Nat.le_refl _) (.cells (cfR A n cap c.times) 39))
  rcases hk with hk | ⟨hk, hk'⟩
  all_goals
    go_enter Tryd.func8, Tryd.ntmps8
    go_wp2_with fail
    refine (small8_any _ (HG.out.keepTo BB.out)).mono ?_
    rintro r w1 ⟨rfl, hb1⟩
    have B1 := hid (BX.out.below hb1 BX.out.lt)
    have hc := cells_cfR B1.out
    have H1 := hid (BB.out.trans (hb1.mono (by simp)))
    clear hb1
    go_wp2_with ((with_reducible refine wp_loadRow rfl 39 (.tmp 3) rfl B1 ?_ ?_ ?_); exact sConfig; rfl)
    refine (HE.out _ (HS.out.below H1.out)).mono ?_
    rintro r w2 ⟨v, rfl, ho⟩
    obtain ⟨A2, cap2, hv, _⟩ := ho.form
    subst hv
    have H2 := hid (H1.out.trans (ho.bel.mono H1.out.size))
    clear ho H1 hc B1
    go_wp2
    go_ret
    exact ⟨rfl, H2.out⟩

set_option maxHeartbeats 1000000 in
theorem turned_main (c : Cf) (A : Option Addr) (cap : Nat) (k : Nat) (b : UInt8) (w : World) (hg : ErrTypeAt w) (hs : Sees w A (linesVs c.lines)) (hok : Cfg.ok c = true) (hb : b.toNat ≠ 0) (hk : k < (Cfg.enc c).length) :
    Calls Tryd.prog 8 #[cfV A c.lines.length cap c.times, .int .i64 (k : Nat), .int .u8 (b.toNat : Nat)] w fun r w' => r = .returned (.bool true) ∧ Below w.heap.size w w' := by
  have HG := hid hg
  have HE := hid (fun W (h : Sees W A (linesVs c.lines)) => encode_ok c A cap W h hok)
  have h8 := ((Cfg.ok_iff c).1 hok).1.2
  have hlen := Cfg.enc_length c
  have HS := hid hs
  have hd := Cfg.dec_turned c k hk ((Cfg.enc c)[k] ^^^ b) (xor_ne _ _ hb)
  have hx := u8_xor (Cfg.enc c)[k] b
  have h' : (((b.toNat : Nat) : Int) == 0) = false := beq_eq_false_iff_ne.2 (by omega)
  clear hg hok hs
  rw [cfR_eq] at HE ⊢
  generalize c.lines.length = n at *
  generalize Cfg.enc c = E at *
  have HAt := hid (fun (W0 W : World) (g N cap : Nat) (h : Out W0 W 5 1 (.slice (some ⟨g, 0, none⟩) N cap) N (byteVs E)) => out_byte_at h k hk)
  generalize hek : E[k] = ek at *
  have HX := hid hx
  have HD := hid hd
  have HEL := hid (show (E.set k (ek ^^^ b)).length ≤ 10000000000000 by rw [List.length_set, hlen]; omega)
  rw [hlen] at hk
  clear hx hd hek hlen hb
  have h : decide (20 < (n : Int)) = false := by simp; omega
  have hk0 : decide ((k : Int) < 0) = false := by simp
  have hk1 : decide ((26 : Int) + 14 * (n : Int) ≤ (k : Int)) = false := by simp; omega
  have BX := hid (Box.new w 39 (cfR A n cap c.times))
  have BB := hid ((Below.refl w.heap.size w).alloc (Nat.le_refl _) (.cells (cfR A n cap c.times) 39))
  go_enter Tryd.func8, Tryd.ntmps8
  go_wp2_with fail
  refine (small8_any _ (HG.out.keepTo BB.out)).mono ?_
  rintro r w1 ⟨rfl, hb1⟩
  have B1 := hid (BX.out.below hb1 BX.out.lt)
  have hc := cells_cfR B1.out
  have H1 := hid (BB.out.trans (hb1.mono (by simp)))
  clear hb1
  go_wp2_with ((with_reducible refine wp_loadRow rfl 39 (.tmp 3) rfl B1 ?_ ?_ ?_); exact sConfig; rfl)
  refine (HE.out _ (HS.out.below H1.out)).mono ?_
  rintro r w2 ⟨v, rfl, ho⟩
  obtain ⟨g, cap2, rfl, hgl⟩ := out_block ho (by omega)
  obtain ⟨hcell, hfro⟩ := HAt.out _ _ _ _ _ ho
  have HO := hid (And.intro ho hgl)
  clear ho hc B1 BB BX hgl
  go_wp2_with fail
  rw [HX.out]
  have ho := out_byte_set HO.out.1 k (ek ^^^ b) HO.out.2
  have HB2 := hid (H1.out.trans (ho.bel.mono H1.out.size))
  refine (decode_no _ _ _ _ ho.byts HEL.out HD.out).mono ?_
  rintro r w3 ⟨e, rfl, he, hb3⟩
  have H3 := hid (And.intro he (HB2.out.trans (hb3.mono HB2.out.size)))
  clear he hb3 HB2 ho
  go_wp2_with ((with_reducible refine wp_storeNew rfl 39 (.tmp 10) (.tmp 52) rfl cfZ ?_ ?_ ?_ ?_ ?_ ?_); exact sConfig; rfl; rfl; rfl; rfl)
  have hq : Below w3.heap.size w3 (w3.alloc (.cells cfZ 39)) := (Below.refl _ _).alloc (Nat.le_refl _) _
  have H4 := hid (H3.out.2.trans (hq.mono H3.out.2.size))
  refine (code_any _ _ _ (HG.out.keepTo H4.out) (H3.out.1.below hq)).mono ?_
  rintro r w4 ⟨rfl, hb4⟩
  have H5 := hid (H4.out.trans (hb4.mono H4.out.size))
  clear hb4 hq
  go_wp2
  go_ret
  exact ⟨rfl, H5.out⟩

theorem turned_any_law (c : Cf) (A : Option Addr) (cap : Nat) (k b : Int) (w : World) (hg : ErrTypeAt w) (hs : Sees w A (linesVs c.lines)) (hb0 : 0 ≤ b) (hb1 : b < 256) :
    Calls Tryd.prog 8 #[cfV A c.lines.length cap c.times, .int .i64 k, .int .u8 b] w fun r w' => r = .returned (.bool true) ∧ Below w.heap.size w w' := by
  by_cases h : 20 < (c.lines.length : Int)
  · exact turned_skip A _ cap _ k b w hg (.inl (decide_eq_true h))
  · have hd : decide (20 < (c.lines.length : Int)) = false := decide_eq_false h
    by_cases hz : b = 0
    · exact turned_skip A _ cap _ k b w hg (.inr ⟨hd, beq_iff_eq.2 hz⟩)
    · have hz' : (b == 0) = false := beq_eq_false_iff_ne.2 hz
      cases hok : Cfg.ok c with
      | false => exact turned_bad c A cap k b w hg hs hok hd hz'
      | true =>
        have hl := Cfg.enc_length c
        by_cases hk0 : k < 0
        · exact turned_far c A cap k b w hg hs hok hz' (.inl (decide_eq_true hk0))
        · by_cases hk1 : (26 : Int) + 14 * (c.lines.length : Int) ≤ k
          · exact turned_far c A cap k b w hg hs hok hz' (.inr ⟨decide_eq_false hk0, decide_eq_true hk1⟩)
          · obtain ⟨m, rfl⟩ := Int.eq_ofNat_of_zero_le (show 0 ≤ k by omega)
            obtain ⟨d, rfl⟩ := Int.eq_ofNat_of_zero_le hb0
            have hd2 : (UInt8.ofNat d).toNat = d := by rw [Crc.toNat_ofNat]; omega
            have := turned_main c A cap m (UInt8.ofNat d) w hg hs hok (by rw [hd2]; omega) (by omega)
            rw [hd2] at this
            exact this
end Go.Proofs.YtlijncmjcecppaaDoor
