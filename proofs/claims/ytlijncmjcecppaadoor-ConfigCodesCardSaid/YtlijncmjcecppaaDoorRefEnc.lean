/- crossbuckref08.Encode by contract. -/
import Derived.Test.YtlijncmjcecppaaDoorRef08
namespace Go.Proofs.YtlijncmjcecppaaDoor
open Go.RowKit

theorem refEncode_bad (c : Cf) (A : Option Addr) (cap : Nat) (w : World) (hs : Sees w A (linesVs c.lines)) (hbig : c.lines.length ≤ 1000000000000000) (hok : Cfg.ok c = false) :
    Calls Tryd.prog 20 #[cfV A c.lines.length cap c.times] w fun r w' => r = .returned (.tuple #[.slice none 0 0, .int .i64 6]) ∧ Below w.heap.size w w' := by
  have HC := hid (fun W (h : Sees W A (linesVs c.lines)) => refCheck_any c A cap W h hbig)
  have HS := hid hs
  unfold Cfg.code at HC
  rw [hok] at HC
  simp only [Bool.false_eq_true, if_false] at HC
  clear hok hs
  cases c with
  | mk ls t =>
    simp only at HC HS hbig
    generalize ls.length = n at *
    simp only [cfV] at HC ⊢
    go_enter Tryd.func20, Tryd.ntmps20
    go_wp2_with fail
    refine (HC.out _ (HS.out.alloc _)).mono ?_
    rintro r w2 ⟨rfl, hb⟩
    have B := hid hb
    clear hb
    go_wp2
    go_ret2
    exact ⟨rfl, ((Below.refl _ _).alloc (Nat.le_refl _) _).trans (B.out.mono (by simp))⟩

set_option maxHeartbeats 4000000 in
set_option maxRecDepth 100000 in
theorem refEncode_ok (c : Cf) (A : Option Addr) (cap : Nat) (w : World) (hs : Sees w A (linesVs c.lines)) (hok : Cfg.ok c = true) :
    Calls Tryd.prog 20 #[cfV A c.lines.length cap c.times] w fun r w' => ∃ v, r = .returned (.tuple #[v, .int .i64 0]) ∧ Out w w' 5 1 v (26 + 14 * c.lines.length) (byteVs (Cfg.enc c)) := by
  obtain ⟨⟨h1, h8⟩, ht, hl⟩ := (Cfg.ok_iff c).1 hok
  have HC := hid (fun W (h : Sees W A (linesVs c.lines)) => refCheck_any c A cap W h (by omega))
  unfold Cfg.code at HC
  rw [hok] at HC
  simp only [if_true] at HC
  have HS := hid hs
  have HT := hid (fun (W : World) (g : Nat) (ty : TypeId) h k hk => nA_at (w := W) (g := g) (ty := ty) (t := c.times) h k hk)
  have HL := hid hl
  have HTB := hid ht
  have HZ := hid (Cfg.encT_zero c)
  have HSu := hid (fun k hk => Cfg.encT_succ c k hk)
  have HLe := hid (fun k hk => Cfg.encT_length c k hk)
  have HZl := hid (Cfg.encL_zero c)
  have HSl := hid (fun k hk => Cfg.encL_succ c k hk)
  have HLl := hid (fun k hk => Cfg.encL_length c k hk)
  have HAl := hid (show Crc.sealed (Cfg.encL c c.lines.length) = Cfg.enc c by rw [Cfg.encL_all]; rfl)
  clear hs hok hl ht
  have hhd : byteVs (Cfg.hd c) = [.int .u8 88, .int .u8 66, .int .u8 49, .int .u8 (c.lines.length : Nat)] := by
    have e : ((UInt8.ofNat c.lines.length).toNat : Int) = (c.lines.length : Nat) := by rw [Crc.toNat_ofNat, Nat.mod_eq_of_lt (by omega)]
    rw [← e]; rfl
  have HH := hid hhd
  clear hhd
  generalize hEnc : Cfg.enc c = en at HAl ⊢
  clear hEnc
  have hn : ∃ n, n = c.lines.length := ⟨_, rfl⟩
  obtain ⟨n, hn⟩ := hn
  have HN := hid hn
  have hcv : cfV A c.lines.length cap c.times = .agg #[.slice A n cap, .int .i64 c.times.amber, .int .i64 c.times.red, .int .i64 c.times.entry, .int .i64 c.times.travel, .int .i64 c.times.prove, .int .i64 c.times.opened, .int .i64 c.times.override, .int .i64 c.times.fresh, .int .i64 c.times.approach, .int .i64 c.times.warn] := by rw [hn]; rfl
  rw [hcv] at HC ⊢
  rw [← hn] at h1 h8 HH HAl ⊢
  clear hn hcv
  go_enter Tryd.func20, Tryd.ntmps20
  go_wp2_with fail
  refine (HC.out _ (HS.out.alloc _)).mono ?_
  rintro r w2 ⟨rfl, hb⟩
  have BX := hid (Box.below (Box.new w 39 #[.slice A n cap, .int .i64 c.times.amber, .int .i64 c.times.red, .int .i64 c.times.entry, .int .i64 c.times.travel, .int .i64 c.times.prove, .int .i64 c.times.opened, .int .i64 c.times.override, .int .i64 c.times.fresh, .int .i64 c.times.approach, .int .i64 c.times.warn]) hb (by simp))
  have B := hid (((Below.refl _ _).alloc (Nat.le_refl _) _).trans (hb.mono (by simp)))
  clear hb
  have cA := (BX.out.cell 0).trans (show _ = some (.slice A n cap) from rfl)
  have t1 := (BX.out.cell 1).trans (show _ = some (.int .i64 c.times.amber) from rfl)
  have t2 := (BX.out.cell 2).trans (show _ = some (.int .i64 c.times.red) from rfl)
  have t3 := (BX.out.cell 3).trans (show _ = some (.int .i64 c.times.entry) from rfl)
  have t4 := (BX.out.cell 4).trans (show _ = some (.int .i64 c.times.travel) from rfl)
  have t5 := (BX.out.cell 5).trans (show _ = some (.int .i64 c.times.prove) from rfl)
  have t6 := (BX.out.cell 6).trans (show _ = some (.int .i64 c.times.opened) from rfl)
  have t7 := (BX.out.cell 7).trans (show _ = some (.int .i64 c.times.override) from rfl)
  have t8 := (BX.out.cell 8).trans (show _ = some (.int .i64 c.times.fresh) from rfl)
  have t9 := (BX.out.cell 9).trans (show _ = some (.int .i64 c.times.approach) from rfl)
  have ta := (BX.out.cell 10).trans (show _ = some (.int .i64 c.times.warn) from rfl)
  have hlt := BX.out.lt
  go_wp2_with fail
  refine (refTimes_any _ _ _ _ _ _ _ _ _ _ _).mono ?_
  rintro r w3 ⟨rfl, hb3⟩
  have hO := Out.fresh (Below.refl w2.heap.size w2) #[.int .u8 88, .int .u8 66, .int .u8 49, .int .u8 (n : Nat)] 5 1 4 rfl (by omega)
  have H3 := hid (hO.below hb3)
  clear hO hb3 cA t1 t2 t3 t4 t5 t6 t7 t8 t9 ta
  go_wp2_with fail
  obtain ⟨w4, hw4⟩ : ∃ W, W = w3.alloc (.cells #[.int .i64 c.times.amber, .int .i64 c.times.red, .int .i64 c.times.entry, .int .i64 c.times.travel, .int .i64 c.times.prove, .int .i64 c.times.opened, .int .i64 c.times.override, .int .i64 c.times.fresh, .int .i64 c.times.approach, .int .i64 c.times.warn] 78) := ⟨_, rfl⟩
  have M4 := hid (show Box w4 w3.heap.size 78 (nA c.times) by rw [hw4]; exact Box.new _ _ _)
  have H4 : Hid (Out w4 w4 5 1 (.slice none 0 0) 0 []) := Out.none _ _ _
  have HB4 : Hid (Below w2.heap.size w2 w4) := by rw [hw4]; exact H3.out.bel.alloc H3.out.le _
  have HO4 : Hid (Out w2 w4 5 1 (.slice (some ⟨w2.heap.size, 0, none⟩) 4 4) 4 (byteVs (Cfg.encT c 0))) := by
    show Out _ _ _ _ _ _ _
    rw [HZ.out, HH.out, hw4]
    exact H3.out.below ((Below.refl _ _).alloc (Nat.le_refl _) _)
  rw [← hw4]
  clear hw4 H3 H4
  go_loopg [5, 7] 10 (fun gg s5 s7 wr => ∃ (kk : Nat) (A' : Option Addr) (cap' : Nat), kk ≤ 10 ∧ 10 - kk ≤ gg ∧ s5 = .slice A' (4 + 2 * kk) cap' ∧ s7 = .int .i64 kk ∧ Hid (Out w2 wr 5 1 (.slice A' (4 + 2 * kk) cap') (4 + 2 * kk) (byteVs (Cfg.encT c kk)) ∧ Box wr w3.heap.size 78 (nA c.times)))
  case atStart => exact ⟨0, _, _, by omega, by omega, rfl, rfl, HO4.out, M4.out⟩
  case round =>
    obtain ⟨kk, A', cap', hkk, hg, rfl, rfl, HO⟩ := hrel
    by_cases hlt10 : kk < 10
    · have hc := HT.out wr _ _ HO.out.2 kk hlt10
      have hv := HTB.out _ (List.getElem_mem (show kk < c.times.nums.length from hlt10))
      have hs := HSu.out kk hlt10
      generalize c.times.nums[kk]'(show kk < c.times.nums.length from hlt10) = v at hc hs hv
      obtain ⟨hv1, hv2⟩ := hv
      obtain ⟨m, rfl⟩ := Int.eq_ofNat_of_zero_le (show 0 ≤ v by omega)
      rw [Int.toNat_natCast] at hs
      have HSU := hid hs
      have hle := HLe.out kk (by omega)
      have HP := hid (fun W (h : Byts W (.slice A' (4 + 2 * kk) cap') (Cfg.encT c kk)) => refPut2_any _ _ m W h (by omega))
      rw [hle] at HP
      clear hs hle
      go_wp2_with fail
      refine (HP.out _ HO.out.1.byts).mono ?_
      rintro r w5 ⟨v5, rfl, h5⟩
      obtain ⟨A5, cap5, hv, _⟩ := h5.form
      subst hv
      have M5 := hid (HO.out.2.below h5.bel HO.out.2.lt)
      have H5 := hid (HO.out.1.rebase h5)
      clear h5
      go_wp2
      go_roundg (10 - (kk + 1))
      case measure => omega
      case rel => exact ⟨kk + 1, A5, cap5, by omega, by omega, rfl, by go_num, by rw [HSU.out]; exact H5.out, M5.out⟩
    · have e : kk = 10 := by omega
      subst e
      clear hg hkk hlt10 M4 HO4 HB4
      go_wp2_with fail
      go_loopg [5, 8, 9] n (fun gg s5 s8 _ wr => ∃ (kk : Nat) (A' : Option Addr) (cap' : Nat), kk ≤ n ∧ n - kk ≤ gg ∧ s5 = .slice A' (24 + 14 * kk) cap' ∧ s8 = .int .i64 kk ∧ Hid (Out w2 wr 5 1 (.slice A' (24 + 14 * kk) cap') (24 + 14 * kk) (byteVs (Cfg.encL c kk))))
      case atStart => exact ⟨0, A', cap', by omega, by omega, rfl, rfl, by rw [HZl.out]; exact HO.out.1⟩
      case round =>
        obtain ⟨wo, rfl⟩ : ∃ wo : World, wo = wr := ⟨_, rfl⟩
        clear HO
        obtain ⟨kk, A', cap', hkk, hg, rfl, rfl, HO⟩ := hrel
        by_cases hltn : kk < n
        · have hkl : kk < c.lines.length := by rw [← HN.out]; exact hltn
          obtain ⟨bb, off, rfl, hbb, _⟩ := (HS.out.below B.out).form (by rw [linesVs_length]; omega)
          have HCl := hid (fun (W : World) (hb : Below w2.heap.size w2 W) => And.intro (((BX.out.below hb BX.out.lt).cell 0).trans (show _ = some (.slice (some ⟨bb, off, none⟩) n cap) from rfl)) (line_cells (b := bb) (off := off) (ls := c.lines) (w := W) (fun j v hj => by
            have := ((HS.out.below B.out).below hb).some j v hj
            rw [add_lit] at this
            exact this) kk hkl))
          have hline := (Cfg.lineOk_iff _).1 (HL.out _ (List.getElem_mem hkl))
          have hsu := HSl.out kk hkl
          have hle := HLl.out kk (by omega)
          rw [Cfg.encLine_eq] at hsu
          generalize c.lines[kk] = l at HCl hline hsu
          generalize Cfg.encL c kk = E at HO hsu hle
          obtain ⟨⟨g1, g2⟩, ⟨g3, g4⟩, ⟨g5, g6⟩, ⟨g7, g8⟩, g9, g10⟩ := hline
          cases l with
          | mk st sg s0 s1 s2 =>
            simp only at HCl g1 g2 g3 g4 g5 g6 g7 g8 g9 g10 hsu
            obtain ⟨st, rfl⟩ := Int.eq_ofNat_of_zero_le (show 0 ≤ st by omega)
            obtain ⟨sg, rfl⟩ := Int.eq_ofNat_of_zero_le (show 0 ≤ sg by omega)
            obtain ⟨s0, rfl⟩ := Int.eq_ofNat_of_zero_le (show 0 ≤ s0 by omega)
            obtain ⟨s1, rfl⟩ := Int.eq_ofNat_of_zero_le (show 0 ≤ s1 by omega)
            obtain ⟨s2, rfl⟩ := Int.eq_ofNat_of_zero_le (show 0 ≤ s2 by omega)
            simp only [Int.toNat_natCast] at hsu
            have HSU := hid hsu
            have P1 := hid (fun W (h : Byts W (.slice A' (24 + 14 * kk) cap') E) => refPut4_any _ E st W h (by omega) (by omega))
            have P2 := hid (fun W v (h : Byts W v (E ++ Cfg.be4 st)) => refPut4_any v _ sg W h (by simp [Cfg.be4_length]; omega) (by omega))
            have P3 := hid (fun W v (h : Byts W v ((E ++ Cfg.be4 st) ++ Cfg.be4 sg)) => refPut2_any v _ s0 W h (by simp [Cfg.be4_length]; omega))
            have P4 := hid (fun W v (h : Byts W v (((E ++ Cfg.be4 st) ++ Cfg.be4 sg) ++ Cfg.be2 s0)) => refPut2_any v _ s1 W h (by simp [Cfg.be4_length, Cfg.be2_length]; omega))
            have P5 := hid (fun W v (h : Byts W v ((((E ++ Cfg.be4 st) ++ Cfg.be4 sg) ++ Cfg.be2 s0) ++ Cfg.be2 s1)) => refPut2_any v _ s2 W h (by simp [Cfg.be4_length, Cfg.be2_length]; omega))
            have hle1 : (E ++ Cfg.be4 st).length = 28 + 14 * kk := by simp [Cfg.be4_length]; omega
            have hle2 : ((E ++ Cfg.be4 st) ++ Cfg.be4 sg).length = 32 + 14 * kk := by simp [Cfg.be4_length]; omega
            have hle3 : (((E ++ Cfg.be4 st) ++ Cfg.be4 sg) ++ Cfg.be2 s0).length = 34 + 14 * kk := by simp [Cfg.be4_length, Cfg.be2_length]; omega
            have hle4 : ((((E ++ Cfg.be4 st) ++ Cfg.be4 sg) ++ Cfg.be2 s0) ++ Cfg.be2 s1).length = 36 + 14 * kk := by simp [Cfg.be4_length, Cfg.be2_length]; omega
            rw [hle] at P1
            rw [hle1] at P2
            rw [hle2] at P3
            rw [hle3] at P4
            rw [hle4] at P5
            clear hsu hle hle1 hle2 hle3 hle4 hbb
            obtain ⟨cA, c0, c1, c2, c3, c4⟩ := HCl.out wo HO.out.bel
            go_wp2_with fail
            refine (P1.out _ HO.out.byts).mono ?_
            rintro r w5 ⟨v5, rfl, h5⟩
            obtain ⟨A5, cap5, hv, _⟩ := h5.form
            subst hv
            have H5 := hid (HO.out.rebase h5)
            clear h5 HO P1 cA c0 c1 c2 c3 c4
            obtain ⟨cA, c0, c1, c2, c3, c4⟩ := HCl.out w5 H5.out.bel
            go_wp2_with fail
            refine (P2.out _ _ H5.out.byts).mono ?_
            rintro r w6 ⟨v6, rfl, h6⟩
            obtain ⟨A6, cap6, hv, _⟩ := h6.form
            subst hv
            have H6 := hid (H5.out.rebase h6)
            clear h6 H5 P2 cA c0 c1 c2 c3 c4
            obtain ⟨cA, c0, c1, c2, c3, c4⟩ := HCl.out w6 H6.out.bel
            go_wp2_with fail
            refine wp_loop_rounds 4 ?_
            rw [rounds_succ]
            go_wp2_with fail
            refine (P3.out _ _ H6.out.byts).mono ?_
            rintro r w7 ⟨v7, rfl, h7⟩
            obtain ⟨A7, cap7, hv, _⟩ := h7.form
            subst hv
            have H7 := hid (H6.out.rebase h7)
            clear h7 P3 H6 cA c0 c1 c2 c3 c4
            obtain ⟨cA, c0, c1, c2, c3, c4⟩ := HCl.out w7 H7.out.bel
            go_wp2_with fail
            rw [rounds_succ]
            go_wp2_with fail
            refine (P4.out _ _ H7.out.byts).mono ?_
            rintro r w8 ⟨v8, rfl, h8⟩
            obtain ⟨A8, cap8, hv, _⟩ := h8.form
            subst hv
            have H8 := hid (H7.out.rebase h8)
            clear h8 P4 H7 cA c0 c1 c2 c3 c4
            obtain ⟨cA, c0, c1, c2, c3, c4⟩ := HCl.out w8 H8.out.bel
            go_wp2_with fail
            rw [rounds_succ]
            go_wp2_with fail
            refine (P5.out _ _ H8.out.byts).mono ?_
            rintro r w9 ⟨v9, rfl, h9⟩
            obtain ⟨A9, cap9, hv, _⟩ := h9.form
            subst hv
            have H9 := hid (H8.out.rebase h9)
            clear h9 P5 H8 cA c0 c1 c2 c3 c4
            go_wp2_with fail
            rw [rounds_succ]
            go_wp2_with fail
            go_roundg (n - (kk + 1))
            case measure => omega
            case rel =>
              refine ⟨kk + 1, A9, cap9, by omega, by omega, ?_, by go_num, ?_⟩
              · congr 1; omega
              · rw [HSU.out, show 24 + 14 * (kk + 1) = 36 + 14 * kk + 2 by omega]; exact H9.out
        · have e : kk = n := by omega
          subst e
          clear hg hkk hltn
          have cA := ((BX.out.below HO.out.bel BX.out.lt).cell 0).trans (show _ = some (.slice A kk cap) from rfl)
          have CS := hid (fun W v (h : Byts W v (Cfg.encL c kk)) => refSeal_any v _ W h (by rw [HLl.out kk (by rw [HN.out]; exact Nat.le_refl _)]; omega))
          rw [HAl.out] at CS
          go_wp2_with fail
          refine (CS.out _ _ HO.out.byts).mono ?_
          rintro r w7 ⟨v7, rfl, h7⟩
          have H7 := hid (HO.out.rebase h7)
          obtain ⟨A7, cap7, hv, _⟩ := h7.form
          subst hv
          clear h7
          go_wp2
          go_ret2
          refine ⟨_, rfl, ?_⟩
          have h := Out.rebaseB B.out H7.out
          rw [HLl.out kk (by rw [HN.out]; exact Nat.le_refl _)] at h ⊢
          rw [show 26 + 14 * kk = 24 + 14 * kk + 2 by omega]
          exact h
end Go.Proofs.YtlijncmjcecppaaDoor
