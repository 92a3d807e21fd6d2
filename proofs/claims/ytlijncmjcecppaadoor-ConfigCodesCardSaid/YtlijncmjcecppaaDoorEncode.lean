/- config.Encode by contract. -/
import Derived.Test.YtlijncmjcecppaaDoorReader
import Derived.Test.YtlijncmjcecppaaDoorEncPlain
import Derived.Test.YtlijncmjcecppaaDoorSeal
import Derived.Test.YtlijncmjcecppaaDoorCheck3
import Derived.Test.YtlijncmjcecppaaDoorBound
import Derived.Deep.RegionHeld3
namespace Go.Proofs.YtlijncmjcecppaaDoor
open Go.RowKit

theorem Out.byts {w0 w : World} {v : Value} {n : Nat} {l : List UInt8} (h : Out w0 w 5 1 v n (byteVs l)) : Byts w v l := Byts.own h.1
theorem crcSeal_byts (v : Value) (l : List UInt8) (w : World) (h : Byts w v l) (hne : v ≠ .slice none 0 0) (hlen : l.length ≤ 100000000000000) :
    Calls Tryd.prog 38 #[v] w fun r w' => ∃ v', r = .returned v' ∧ Out w w' 5 1 v' (l.length + 2) (byteVs (Crc.sealed l)) := by
  obtain ⟨A, cap, rfl, hs, hc, hn⟩ := h
  refine (crcSeal_any l A cap w hs ?_ hlen).mono ?_
  · rintro rfl
    have := hn rfl
    subst this
    exact hne (by congr 1; omega)
  · rintro r w' ⟨v', rfl, h1, h2⟩
    exact ⟨v', rfl, h1, h2⟩

set_option maxHeartbeats 4000000 in
set_option maxRecDepth 100000 in
theorem encode_ok (c : Cf) (A : Option Addr) (cap : Nat) (w : World) (hs : Sees w A (linesVs c.lines)) (hok : Cfg.ok c = true) :
    Calls Tryd.prog 19 #[cfV A c.lines.length cap c.times] w fun r w' => ∃ v, r = .returned (.tuple #[v, .nilIface]) ∧ Out w w' 5 1 v (26 + 14 * c.lines.length) (byteVs (Cfg.enc c)) := by
  obtain ⟨⟨h1, h8⟩, ht, hl⟩ := (Cfg.ok_iff c).1 hok
  have HC := hid (fun W (h : Sees W A (linesVs c.lines)) => check_any c A cap W h (by omega))
  unfold Cfg.code at HC
  rw [hok] at HC
  simp only [if_true] at HC
  have HS := hid hs
  have HT := hid (fun (W : World) (g : Nat) (ty : TypeId) (v0 : Value) h k hk => times_cells (w := W) (g := g) (ty := ty) (v0 := v0) (t := c.times) h k hk)
  have HL := hid hl
  have HTB := hid ht
  have HZ := hid (Cfg.encT_zero c)
  have HSu := hid (fun k hk => Cfg.encT_succ c k hk)
  have HLe := hid (fun k hk => Cfg.encT_length c k hk)
  have HZl := hid (Cfg.encL_zero c)
  have HSl := hid (fun k hk => Cfg.encL_succ c k hk)
  have HLl := hid (fun k hk => Cfg.encL_length c k hk)
  have HAl := hid (show Crc.sealed (Cfg.encL c c.lines.length) = Cfg.enc c by rw [Cfg.encL_all]; rfl)
  clear hs hok hl ht
  have hhd : byteVs (Cfg.hd c) = [.int .u8 88, .int .u8 66, .int .u8 49, .int .u8 (c.lines.length : Nat)] := by
    have e : ((UInt8.ofNat c.lines.length).toNat : Int) = (c.lines.length : Nat) := by rw [Crc.toNat_ofNat, Nat.mod_eq_of_lt (by omega)]
    rw [← e]; rfl
  have HH := hid hhd
  clear hhd
  generalize hEnc : Cfg.enc c = en at HAl ⊢
  clear hEnc
  have HA : Hid (∃ cc, cc = c) := ⟨c, rfl⟩
  have hn : ∃ n, n = c.lines.length := ⟨_, rfl⟩
  obtain ⟨n, hn⟩ := hn
  have HN := hid hn
  have hcv : cfV A c.lines.length cap c.times = .agg #[.slice A n cap, .int .i64 c.times.amber, .int .i64 c.times.red, .int .i64 c.times.entry, .int .i64 c.times.travel, .int .i64 c.times.prove, .int .i64 c.times.opened, .int .i64 c.times.override, .int .i64 c.times.fresh, .int .i64 c.times.approach, .int .i64 c.times.warn] := by rw [hn]; rfl
  rw [hcv] at HC ⊢
  rw [← hn] at h1 h8 HH HAl ⊢
  clear hn hcv
  go_enter Tryd.func19, Tryd.ntmps19
  go_wp2_with fail
  refine (HC.out _ (HS.out.alloc _)).mono ?_
  rintro r w2 ⟨x, rfl, hx, hb⟩
  obtain rfl := hx.nilOf
  have hbx := Box.below (Box.new w 39 #[.slice A n cap, .int .i64 c.times.amber, .int .i64 c.times.red, .int .i64 c.times.entry, .int .i64 c.times.travel, .int .i64 c.times.prove, .int .i64 c.times.opened, .int .i64 c.times.override, .int .i64 c.times.fresh, .int .i64 c.times.approach, .int .i64 c.times.warn]) hb (by simp)
  have hcs : w2.cell? ⟨w.heap.size, 0, none⟩ = some (.slice A n cap) := (hbx.cell 0).trans rfl
  have B := hid (((Below.refl _ _).alloc (Nat.le_refl _) _).trans (hb.mono (by simp)))
  have BX := hid hbx
  clear hb hx hbx
  have hlt := BX.out.lt
  have kc := fun (W : World) => Lib.run_convert_bytes_const (P := Tryd.prog) W 42 5 #[.int .u8 88, .int .u8 66, .int .u8 49] 3 3 Tryd.underlying42 Tryd.underlying5
  have hX : Hid (Below w2.heap.size w2 (w2.alloc (.cells #[.int .u8 88, .int .u8 66, .int .u8 49] 5 (3, 4)))) := (Below.refl _ _).alloc (Nat.le_refl _) _
  have hXs : Hid (Sees (w2.alloc (.cells #[.int .u8 88, .int .u8 66, .int .u8 49] 5 (3, 4))) (some ⟨w2.heap.size, 0, none⟩) [.int .u8 88, .int .u8 66, .int .u8 49]) := fun j u hj => ⟨_, rfl, by
    rw [add_lit, Nat.zero_add, World.cell?_alloc_mark]; simpa using hj⟩
  go_wp2_with (at_builtin; refine wp_grow1 eiByte rfl (.tmp 18) (.tmp 23) rfl hX _ _ hXs _ rfl (fun h => by cases h) rfl (by simp) rfl rfl rfl (by omega) (by omega) ?_)
  intro A3 cap3 w3 H3
  clear hX hXs kc hcs
  go_wp2_with fail
  refine (times_any _ _ _).mono ?_
  rintro r w4 ⟨rfl, hb4⟩
  have H4 : Hid (Out w2 w4 5 1 (.slice A3 (3 + 1) cap3) (3 + 1) (byteVs (Cfg.encT c 0))) := by
    have := H3.out.below hb4
    show Out _ _ _ _ _ _ _
    rw [HZ.out, HH.out]
    exact this
  clear hb4 H3
  have ix := fun k hk => ix10 w.heap.size 1 k hk
  go_wp2_with fail
  go_loopg [5, 7, 27] 10 (fun gg s5 _ s27 wr => ∃ (kk : Nat) (A' : Option Addr) (cap' : Nat), kk ≤ 10 ∧ 10 - kk ≤ gg ∧ s5 = .slice A' (4 + 2 * kk) cap' ∧ s27 = .int .i64 kk ∧ Hid (Out w2 wr 5 1 (.slice A' (4 + 2 * kk) cap') (4 + 2 * kk) (byteVs (Cfg.encT c kk))))
  case atStart => exact ⟨0, A3, cap3, by omega, by omega, rfl, rfl, H4.out⟩
  case round =>
    obtain ⟨kk, A', cap', hkk, hg, rfl, rfl, HO⟩ := hrel
    by_cases hlt : kk < 10
    · have hc := (BX.out.below HO.out.bel BX.out.lt)
      have hc := HT.out wr _ _ _ hc kk hlt
      have hv := HTB.out _ (List.getElem_mem (show kk < c.times.nums.length from hlt))
      have hs := HSu.out kk hlt
      generalize c.times.nums[kk]'(show kk < c.times.nums.length from hlt) = v at hc hs hv
      obtain ⟨hv1, hv2⟩ := hv
      obtain ⟨m, rfl⟩ := Int.eq_ofNat_of_zero_le (show 0 ≤ v by omega)
      rw [Int.toNat_natCast] at hs
      have HSU := hid hs
      have hle := HLe.out kk (by omega)
      have HP := hid (fun W (h : Byts W (.slice A' (4 + 2 * kk) cap') (Cfg.encT c kk)) => put16_any _ _ m W h (by omega) (by omega))
      rw [hle] at HP
      have ixk := ix kk hlt
      clear hs ix hle
      go_wp2_with fail
      refine (HP.out _ HO.out.byts).mono ?_
      rintro r w5 ⟨v5, rfl, h5⟩
      obtain ⟨A5, cap5, hv, _⟩ := h5.form
      subst hv
      have H5 := hid (HO.out.rebase h5)
      clear h5
      go_wp2
      go_roundg (10 - (kk + 1))
      case measure => omega
      case rel => exact ⟨kk + 1, A5, cap5, by omega, by omega, rfl, by go_num, by rw [HSU.out]; exact H5.out⟩
    · have e : kk = 10 := by omega
      subst e
      clear hg hkk hlt ix
      have hcs := ((BX.out.below HO.out.bel BX.out.lt).cell 0).trans (show _ = some (.slice A n cap) from rfl)
      go_wp2_with fail
      clear hcs
      go_loopg [5, 9, 11, 40] n (fun gg s5 _ _ s40 wr => ∃ (kk : Nat) (A' : Option Addr) (cap' : Nat), kk ≤ n ∧ n - kk ≤ gg ∧ s5 = .slice A' (24 + 14 * kk) cap' ∧ s40 = .int .i64 kk ∧ Hid (Out w2 wr 5 1 (.slice A' (24 + 14 * kk) cap') (24 + 14 * kk) (byteVs (Cfg.encL c kk))))
      case atStart => exact ⟨0, A', cap', by omega, by omega, rfl, rfl, by rw [HZl.out]; exact HO.out⟩
      case round =>
        obtain ⟨wo, rfl⟩ : ∃ wo : World, wo = wr := ⟨_, rfl⟩
        clear HO
        obtain ⟨kk, A', cap', hkk, hg, rfl, rfl, HO⟩ := hrel
        by_cases hlt : kk < n
        · have hkl : kk < c.lines.length := by rw [← HN.out]; exact hlt
          obtain ⟨bb, off, rfl, _, hc⟩ := ((HS.out.below B.out).below (HO.out.bel.mono (Nat.le_refl _))).form (by rw [linesVs_length]; omega)
          obtain ⟨c0, c1, c2, c3, c4⟩ := line_cells hc kk hkl
          have hline := (Cfg.lineOk_iff _).1 (HL.out _ (List.getElem_mem hkl))
          have hsu := HSl.out kk hkl
          have hle := HLl.out kk (by omega)
          rw [Cfg.encLine_eq] at hsu
          generalize c.lines[kk] = l at c0 c1 c2 c3 c4 hline hsu
          generalize Cfg.encL c kk = E at HO hsu hle
          obtain ⟨⟨g1, g2⟩, ⟨g3, g4⟩, ⟨g5, g6⟩, ⟨g7, g8⟩, g9, g10⟩ := hline
          cases l with
          | mk st sg s0 s1 s2 =>
            simp only at c0 c1 c2 c3 c4 g1 g2 g3 g4 g5 g6 g7 g8 g9 g10 hsu
            obtain ⟨st, rfl⟩ := Int.eq_ofNat_of_zero_le (show 0 ≤ st by omega)
            obtain ⟨sg, rfl⟩ := Int.eq_ofNat_of_zero_le (show 0 ≤ sg by omega)
            obtain ⟨s0, rfl⟩ := Int.eq_ofNat_of_zero_le (show 0 ≤ s0 by omega)
            obtain ⟨s1, rfl⟩ := Int.eq_ofNat_of_zero_le (show 0 ≤ s1 by omega)
            obtain ⟨s2, rfl⟩ := Int.eq_ofNat_of_zero_le (show 0 ≤ s2 by omega)
            simp only [Int.toNat_natCast] at hsu
            have HSU := hid hsu
            have P1 := hid (fun W (h : Byts W (.slice A' (24 + 14 * kk) cap') E) => put32_any _ E st W h (by omega) (by omega))
            have P2 := hid (fun W v (h : Byts W v (E ++ Cfg.be4 st)) => put32_any v _ sg W h (by simp [Cfg.be4_length]; omega) (by omega))
            have P3 := hid (fun W v (h : Byts W v ((E ++ Cfg.be4 st) ++ Cfg.be4 sg)) => put16_any v _ s0 W h (by simp [Cfg.be4_length]; omega) (by omega))
            have P4 := hid (fun W v (h : Byts W v (((E ++ Cfg.be4 st) ++ Cfg.be4 sg) ++ Cfg.be2 s0)) => put16_any v _ s1 W h (by simp [Cfg.be4_length, Cfg.be2_length]; omega) (by omega))
            have P5 := hid (fun W v (h : Byts W v ((((E ++ Cfg.be4 st) ++ Cfg.be4 sg) ++ Cfg.be2 s0) ++ Cfg.be2 s1)) => put16_any v _ s2 W h (by simp [Cfg.be4_length, Cfg.be2_length]; omega) (by omega))
            have hle1 : (E ++ Cfg.be4 st).length = 28 + 14 * kk := by simp [Cfg.be4_length]; omega
            have hle2 : ((E ++ Cfg.be4 st) ++ Cfg.be4 sg).length = 32 + 14 * kk := by simp [Cfg.be4_length]; omega
            have hle3 : (((E ++ Cfg.be4 st) ++ Cfg.be4 sg) ++ Cfg.be2 s0).length = 34 + 14 * kk := by simp [Cfg.be4_length, Cfg.be2_length]; omega
            have hle4 : ((((E ++ Cfg.be4 st) ++ Cfg.be4 sg) ++ Cfg.be2 s0) ++ Cfg.be2 s1).length = 36 + 14 * kk := by simp [Cfg.be4_length, Cfg.be2_length]; omega
            rw [hle] at P1
            rw [hle1] at P2
            rw [hle2] at P3
            rw [hle3] at P4
            rw [hle4] at P5
            clear hsu hle hle1 hle2 hle3 hle4 hc
            have hlw := BX.out.lt
            obtain ⟨X, hX⟩ : ∃ X : Obj, X = .cells #[.int .i64 (st : Nat), .int .i64 (sg : Nat), .int .i64 (s0 : Nat), .int .i64 (s1 : Nat), .int .i64 (s2 : Nat)] 24 := ⟨_, rfl⟩
            have HBY : Hid (Byts ((wo.alloc X).drew) (.slice A' (24 + 14 * kk) cap') E) := HO.out.byts.alloc X
            have HBW : Hid (Below w2.heap.size w2 ((wo.alloc X).drew)) := (HO.out.bel.alloc HO.out.le X).drew
            have hbx : Box ((wo.alloc X).drew) wo.heap.size 24 #[.int .i64 (st : Nat), .int .i64 (sg : Nat), .int .i64 (s0 : Nat), .int .i64 (s1 : Nat), .int .i64 (s2 : Nat)] := by rw [hX]; exact Box.new _ _ _
            have HBX := hid hbx
            have HX := hid hX
            clear hX hbx
            have e1 : IntKind.u32.wrap (st : Int) = st := by rw [IntKind.wrap_u32]; omega
            have e2 : IntKind.u32.wrap (sg : Int) = sg := by rw [IntKind.wrap_u32]; omega
            go_wp2_with fail
            rw [← HX.out]
            go_region_held3 (fun w' => w'.cell? ⟨wo.heap.size, 0, none⟩ = some (.int .i64 (st : Nat)) ∧ w'.cell? ⟨wo.heap.size, 1, none⟩ = some (.int .i64 (sg : Nat)))
              (first | exact ⟨(HBX.out.cell 0).trans rfl, (HBX.out.cell 1).trans rfl⟩ | exact ⟨((HBX.out.below H5.out.bel HBX.out.lt).cell 0).trans rfl, ((HBX.out.below H5.out.bel HBX.out.lt).cell 1).trans rfl⟩ | exact ⟨(((HBX.out.below H5.out.bel HBX.out.lt).below H6.out.bel (HBX.out.below H5.out.bel HBX.out.lt).lt).cell 0).trans rfl, (((HBX.out.below H5.out.bel HBX.out.lt).below H6.out.bel (HBX.out.below H5.out.bel HBX.out.lt).lt).cell 1).trans rfl⟩)
              (first
                | (go_at_call 37; ((with_reducible refine (P1.out _ HBY.out).mono ?_); rintro r w5 ⟨v5, rfl, h5⟩; obtain ⟨A5, cap5, hv, _⟩ := h5.form; subst hv; have H5 := hid h5; clear h5))
                | (go_at_call 37; ((with_reducible refine (P2.out _ _ H5.out.byts).mono ?_); rintro r w6 ⟨v6, rfl, h6⟩; obtain ⟨A6, cap6, hv, _⟩ := h6.form; subst hv; have H6 := hid h6; clear h6)))
            clear e1 e2
            have BX6 := hid ((HBX.out.below H5.out.bel HBX.out.lt).below H6.out.bel (HBX.out.below H5.out.bel HBX.out.lt).lt)
            have HO6 := hid (Out.rebaseB HBW.out (H5.out.rebase H6.out))
            clear H5 H6 HBX HBW HBY HO P1 P2
            have k2 := (BX6.out.cell 2).trans (show _ = some (.int .i64 (s0 : Nat)) from rfl)
            have k3 := (BX6.out.cell 3).trans (show _ = some (.int .i64 (s1 : Nat)) from rfl)
            have k4 := (BX6.out.cell 4).trans (show _ = some (.int .i64 (s2 : Nat)) from rfl)
            have x0 := ix3_0
            have x1 := ix3_1
            have x2 := ix3_2
            go_wp2_with fail
            refine wp_loop_rounds 4 ?_
            rw [rounds_succ]
            go_wp2_with fail
            refine (P3.out _ _ HO6.out.byts).mono ?_
            rintro r w7 ⟨v7, rfl, h7⟩
            obtain ⟨A7, cap7, hv, _⟩ := h7.form
            subst hv
            have H7 := hid (HO6.out.rebase h7)
            clear h7 P3 HO6 k2 k3 k4 BX6
            go_wp2_with fail
            rw [rounds_succ]
            go_wp2_with fail
            refine (P4.out _ _ H7.out.byts).mono ?_
            rintro r w8 ⟨v8, rfl, h8⟩
            obtain ⟨A8, cap8, hv, _⟩ := h8.form
            subst hv
            have H8 := hid (H7.out.rebase h8)
            clear h8 P4 H7
            go_wp2_with fail
            rw [rounds_succ]
            go_wp2_with fail
            refine (P5.out _ _ H8.out.byts).mono ?_
            rintro r w9 ⟨v9, rfl, h9⟩
            obtain ⟨A9, cap9, hv, _⟩ := h9.form
            subst hv
            have H9 := hid (H8.out.rebase h9)
            clear h9 P5 H8
            go_wp2_with fail
            rw [rounds_succ]
            go_wp2_with fail
            go_roundg (n - (kk + 1))
            case measure => omega
            case rel =>
              refine ⟨kk + 1, A9, cap9, by omega, by omega, ?_, by go_num, ?_⟩
              · congr 1; omega
              · rw [HSU.out, show 24 + 14 * (kk + 1) = 36 + 14 * kk + 2 by omega]; exact H9.out
        · have e : kk = n := by omega
          subst e
          clear hg hkk hlt
          have CS := hid (fun W v (h : Byts W v (Cfg.encL c kk)) (hv : v ≠ .slice none 0 0) => crcSeal_byts v _ W h hv (by rw [HLl.out kk (by rw [HN.out]; exact Nat.le_refl _)]; omega))
          rw [HAl.out] at CS
          go_wp2_with fail
          refine (CS.out _ _ HO.out.byts ?_).mono ?_
          · exact own_byts_nil HO.out.1 (by omega)
          rintro r w7 ⟨v7, rfl, h7⟩
          have H7 := hid (HO.out.rebase h7)
          obtain ⟨A7, cap7, hv, _⟩ := h7.form
          subst hv
          clear h7
          go_wp2
          go_ret2
          refine ⟨_, rfl, ?_⟩
          have h := Out.rebaseB B.out H7.out
          rw [HLl.out kk (by rw [HN.out]; exact Nat.le_refl _)] at h ⊢
          rw [show 26 + 14 * kk = 24 + 14 * kk + 2 by omega]
          exact h

theorem encode_bad (c : Cf) (A : Option Addr) (cap : Nat) (w : World) (hs : Sees w A (linesVs c.lines)) (hbig : c.lines.length ≤ 1000000000000000) (hok : Cfg.ok c = false) :
    Calls Tryd.prog 19 #[cfV A c.lines.length cap c.times] w fun r w' => ∃ x, r = .returned (.tuple #[.slice none 0 0, x]) ∧ ErrIs w' x 6 ∧ Below w.heap.size w w' := by
  have HC := hid (fun W (h : Sees W A (linesVs c.lines)) => check_any c A cap W h hbig)
  have HS := hid hs
  unfold Cfg.code at HC
  rw [hok] at HC
  simp only [Bool.false_eq_true, if_false] at HC
  clear hok hs
  cases c with
  | mk ls t =>
    simp only at HC HS hbig
    generalize ls.length = n at *
    simp only [cfV] at HC ⊢
    go_enter Tryd.func19, Tryd.ntmps19
    go_wp2_with fail
    refine (HC.out _ (HS.out.alloc _)).mono ?_
    rintro r w2 ⟨x, rfl, hx, hb⟩
    have hx' := hx
    obtain ⟨tx, y, rfl⟩ := hx'.ifaceOf (by omega)
    have B := hid hb
    have X := hid hx
    clear hb hx hx'
    go_wp2
    go_ret2
    exact ⟨_, rfl, X.out, ((Below.refl _ _).alloc (Nat.le_refl _) _).trans (B.out.mono (by simp))⟩
end Go.Proofs.YtlijncmjcecppaaDoor
