/- config.Decode by contract: bytes of the right form. -/
import Derived.Test.YtlijncmjcecppaaDoorDecSteps
namespace Go.Proofs.YtlijncmjcecppaaDoor
open Go.RowKit

def DecPost (w : World) (x : List UInt8) (r : Ending) (w' : World) : Prop :=
  if Cfg.ok (Cfg.decBody x) = true then ∃ A cap, r = .returned (.tuple #[cfV A (Cfg.decBody x).lines.length cap (Cfg.decBody x).times, .nilIface]) ∧ Out w w' 24 5 (.slice A (Cfg.decBody x).lines.length cap) (Cfg.decBody x).lines.length (linesVs (Cfg.decBody x).lines)
  else ∃ e, r = .returned (.tuple #[.agg cfZ, e]) ∧ ErrIs w' e 6 ∧ Below w.heap.size w w'

set_option maxHeartbeats 4000000 in
set_option maxRecDepth 100000 in
theorem decode_form (v : Value) (b x : List UInt8) (c : UInt8) (tl : List UInt8) (w : World) (h : Byts w v b) (hlen : b.length ≤ 100000000000000) (ho : Crc.opened b = some x) (hx : x = [88, 66, 49] ++ c :: tl) (htl : tl.length = 20 + 14 * c.toNat) :
    Calls Tryd.prog 21 #[v] w (DecPost w x) := by
  have C := hid (fun W (h : Byts W v b) => crcOpen_some v b _ W h hlen ho)
  have HB := hid h
  have hcb := Crc.byte_lt c
  have hx4 : x.drop 4 = tl := by rw [hx]; rfl
  have hxl : x.length = 24 + 14 * c.toNat := by rw [hx]; simp; omega
  have hx3 : Cfg.at1 x 3 = c.toNat := by rw [hx]; rfl
  have hll : (Cfg.decBody x).lines.length = c.toNat := by rw [← hx3]; simp [Cfg.decBody]
  have HLs := hid (show Cfg.decLs x c.toNat = (Cfg.decBody x).lines by rw [← hx3]; rfl)
  have HLL := hid hll
  have HX4 := hid hx4
  have HXL := hid hxl
  have HX := hid hx
  have HTL0 := hid htl
  clear h ho hx4 hx3 hll hxl htl
  go_enter Tryd.func21, Tryd.ntmps21
  go_wp2_with fail
  refine (C.out _ (HB.out.alloc _)).mono ?_
  rintro r w1 ⟨v1, rfl, h1, hne⟩
  have BX := hid (Box.below (Box.new w 39 cfZ) h1.bel (by simp))
  have H1 := hid h1
  have hltx := BX.out.lt
  obtain ⟨A1, cap1, hv, _⟩ := h1.form
  subst hv
  have kc := fun (W : World) => Lib.run_convert_bytes_const (P := Tryd.prog) W 42 5 #[.int .u8 88, .int .u8 66, .int .u8 49] 3 3 Tryd.underlying42 Tryd.underlying5
  have CP := hid (cutPrefix_ok (.slice A1 x.length cap1) (.slice (some ⟨w1.heap.size, 0, none⟩) 3 3) (c :: tl) [88, 66, 49] (w1.alloc (.cells #[.int .u8 88, .int .u8 66, .int .u8 49] 5 (3, 4)))
    (by rw [← hx]; exact h1.byts.alloc _) (byts_xb1 w1) (by have := HTL0.out; simp; omega))
  clear h1 hne hx
  go_wp2_with fail
  refine CP.out.mono ?_
  rintro r w' ⟨vt, rfl, ht, rfl⟩
  have ht' := ht
  obtain ⟨A2, cap2, rfl, hs2, hc2, _⟩ := ht'
  have HTB := hid ht
  obtain ⟨bb, off, rfl, hbb, hcell⟩ := hs2.form (by simp [byteVs])
  have c1 : (w1.alloc (.cells #[.int .u8 88, .int .u8 66, .int .u8 49] 5 (3, 4))).cell? ⟨bb, off + 0, none⟩ = some (.int .u8 (c.toNat : Nat)) := hcell 0 _ rfl
  rw [Nat.add_zero] at c1
  have htb : Byts (w1.alloc (.cells #[.int .u8 88, .int .u8 66, .int .u8 49] 5 (3, 4))) (.slice (some ⟨bb, off + 1, none⟩) tl.length (cap2 - 1)) (x.drop 4) := by
    have hd := hs2.drop 1
    rw [Option.map_some, add_lit] at hd
    refine ⟨some ⟨bb, off + 1, none⟩, cap2 - 1, by rw [HX4.out], ?_, ?_, fun e => by cases e⟩
    · rw [HX4.out]; exact hd
    · rw [HX4.out]; rw [List.length_cons] at hc2; omega
  have HTL := hid htb
  rw [List.length_cons, HXL.out]
  rw [List.length_cons] at hc2
  rw [HTL0.out] at hc2 HTL ⊢
  generalize hcn : c.toNat = cn at c1 hcb hc2 HTL HXL HLs HLL ⊢
  clear hs2 hcell ht htb kc CP hcn HTL0
  have n1 : ((20 + 14 * cn : Nat) : Int) + 1 ≠ 0 := by omega
  have n1' : (20 + 14 * (cn : Int) + 1 == 0) = false := beq_eq_false_iff_ne.2 (by omega)
  have n2 : (24 + 14 * (cn : Int) != 24 + 14 * (cn : Int)) = false := by simp
  have n3 : ¬ cap2 = 1 := by omega
  go_wp2_with fail
  clear n1 n1' n2 n3
  obtain ⟨W1, hW1⟩ : ∃ W, W = w1.alloc (.cells #[.int .u8 88, .int .u8 66, .int .u8 49] 5 (3, 4)) := ⟨_, rfl⟩
  obtain ⟨C', hC'⟩ : ∃ C, C = w1.heap.size + 1 := ⟨_, rfl⟩
  rw [← hW1, ← hC']
  rw [← hW1] at c1 HTL hbb
  have hWs : W1.heap.size = C' := by rw [hW1, hC']; simp
  have hBR : Box W1 w.heap.size 39 cfZ := by rw [hW1]; exact BX.out.alloc _
  have hBel : Below w.heap.size w W1 := by
    rw [hW1]
    exact (((Below.refl _ _).alloc (Nat.le_refl _) _).trans (H1.out.bel.mono (by simp))).alloc (by have := H1.out.le; simp at this; omega) _
  have HW := hid (And.intro hWs (And.intro hBR hBel))
  clear hWs hBR hBel hW1 hC' BX H1 hltx
  refine (over_any _ _ _ (HTL.out.alloc _) (by rw [List.length_drop, HXL.out]; omega)).mono ?_
  rintro r w3 ⟨g, rfl, hgl, hrd, hb3⟩
  have HA : Hid (DecA W1 w3 C' g x 0) := by
    have hb : Below W1.heap.size W1 w3 := ((Below.refl _ _).alloc (Nat.le_refl _) _).trans (hb3.mono (by simp))
    refine ⟨hb, hrd, ?_, Nat.le_of_eq HW.out.1, ?_⟩
    · have hbx := Box.new W1 39 cfZ
      rw [HW.out.1] at hbx
      exact hbx.below hb3 hbx.lt
    · simp at hgl; omega
  clear hrd hb3 hgl HTL
  go_wp2_with fail
  refine (times_any _ _ _).mono ?_
  rintro r w4 ⟨rfl, hb4⟩
  have HA4 : Hid (DecA W1 w4 C' g x 0) := ⟨HA.out.bel.trans (hb4.mono HA.out.bel.size), HA.out.rd.below hb4, HA.out.box.below hb4 HA.out.box.lt, HA.out.hC, HA.out.hg⟩
  clear HA hb4
  have ix := fun k hk => ix10 C' 1 k hk
  have HR := hid (fun W k (hk : k < 10) (h : Rd W g (x.drop (4 + 2 * k))) => u16_at g x (4 + 2 * k) W h (by rw [HXL.out]; omega) (by rw [HXL.out]; omega))
  go_wp2_with fail
  go_loopg [10, 55] 10 (fun gg _ s55 wr => ∃ kk : Nat, kk ≤ 10 ∧ 10 - kk ≤ gg ∧ s55 = .int .i64 kk ∧ Hid (DecA W1 wr C' g x kk))
  case atStart => exact ⟨0, by omega, by omega, rfl, HA4.out⟩
  case round =>
    obtain ⟨kk, hkk, hg, rfl, HO⟩ := hrel
    by_cases hlt : kk < 10
    · have ixk := ix kk hlt
      have hR := HR.out wr kk hlt HO.out.rd
      obtain ⟨b0, b1⟩ := Cfg.get2_bd x (4 + 2 * kk)
      have hst := fun w5 => HO.out.step (w5 := w5) (h10 := hlt)
      generalize Cfg.get2 x (4 + 2 * kk) = v at hR b0 b1 hst
      have HR2 := hid (And.intro hR hst)
      clear ix hR hst HR
      go_wp2_with fail
      refine HR2.out.1.mono ?_
      rintro r w5 ⟨rfl, hr5, hk5⟩
      have hbx := HO.out.read hk5
      obtain ⟨old, hold⟩ := arrT_at (.slice none 0 0) (Cfg.fK x kk) kk hlt
      have hc := (hbx.cell (1 + kk)).trans hold
      have hf := hbx.frozen (1 + kk)
      have HS := hid (HR2.out.2 w5 hk5 hr5)
      clear hbx hold hr5 hk5
      go_wp2
      go_roundg (10 - (kk + 1))
      case measure => omega
      case rel => exact ⟨kk + 1, by omega, by omega, by go_num, HS.out⟩
    · have e : kk = 10 := by omega
      subst e
      clear hg hkk hlt ix HR HA4
      have c1r := (HO.out.bel.cell (p := ⟨bb, off, none⟩) hbb).trans c1
      clear c1
      go_wp2_with fail
      clear c1r
      have R4 := hid (fun W o o' (e : o' = o + 4) (ho : o' ≤ 24 + 14 * cn) (h : Rd W g (x.drop o)) => by
        subst e
        exact u32_at g x o W h (by rw [HXL.out]; exact ho) (by rw [HXL.out]; omega))
      have R2 := hid (fun W o o' (e : o' = o + 2) (ho : o' ≤ 24 + 14 * cn) (h : Rd W g (x.drop o)) => by
        subst e
        exact u16_at g x o W h (by rw [HXL.out]; exact ho) (by rw [HXL.out]; omega))
      go_loopg [11, 12, 67] cn (fun gg _ _ s67 wr => ∃ (kk : Nat) (A' : Option Addr) (cap' : Nat), kk ≤ cn ∧ cn - kk ≤ gg ∧ s67 = .int .u8 kk ∧ Hid (DecB W1 wr C' g x (24 + 14 * kk) (.slice A' kk cap') kk))
      case atStart => exact ⟨0, none, 0, by omega, by omega, rfl, ⟨HO.out.bel, HO.out.rd, HO.out.box, Out.none' HO.out.bel _ _, HO.out.hC, HO.out.hg⟩⟩
      case round =>
        obtain ⟨wo, rfl⟩ : ∃ wo : World, wo = wr := ⟨_, rfl⟩
        clear HO
        obtain ⟨kk, A', cap', hkk, hg, rfl, HO⟩ := hrel
        by_cases hlt : kk < cn
        · have q0 := fun W h => R4.out W (24 + 14 * kk) (24 + 14 * kk + 4) rfl (by omega) h
          have q1 := fun W h => R4.out W (24 + 14 * kk + 4) (24 + 14 * kk + 8) rfl (by omega) h
          have q2 := fun W h => R2.out W (24 + 14 * kk + 8) (24 + 14 * kk + 10) rfl (by omega) h
          have q3 := fun W h => R2.out W (24 + 14 * kk + 10) (24 + 14 * kk + 12) rfl (by omega) h
          have q4 := fun W h => R2.out W (24 + 14 * kk + 12) (24 + 14 * kk + 14) rfl (by omega) h
          obtain ⟨b0, b0'⟩ := Cfg.get4_bd x (24 + 14 * kk)
          obtain ⟨b1, b1'⟩ := Cfg.get4_bd x (24 + 14 * kk + 4)
          obtain ⟨b2, b2'⟩ := Cfg.get2_bd x (24 + 14 * kk + 8)
          obtain ⟨b3, b3'⟩ := Cfg.get2_bd x (24 + 14 * kk + 10)
          obtain ⟨b4, b4'⟩ := Cfg.get2_bd x (24 + 14 * kk + 12)
          have hdl : Cfg.decLine x (24 + 14 * kk) = ⟨Cfg.get4 x (24 + 14 * kk), Cfg.get4 x (24 + 14 * kk + 4), Cfg.get2 x (24 + 14 * kk + 8), Cfg.get2 x (24 + 14 * kk + 10), Cfg.get2 x (24 + 14 * kk + 12)⟩ := rfl
          have hsu : linesVs (Cfg.decLs x (kk + 1)) = linesVs (Cfg.decLs x kk) ++ lnVs (Cfg.decLine x (24 + 14 * kk)) := by rw [Cfg.decLs_succ]; simp [linesVs]
          rw [hdl] at hsu
          generalize Cfg.get4 x (24 + 14 * kk) = v0 at q0 b0 b0' hsu
          generalize Cfg.get4 x (24 + 14 * kk + 4) = v1 at q1 b1 b1' hsu
          generalize Cfg.get2 x (24 + 14 * kk + 8) = v2 at q2 b2 b2' hsu
          generalize Cfg.get2 x (24 + 14 * kk + 10) = v3 at q3 b3 b3' hsu
          generalize Cfg.get2 x (24 + 14 * kk + 12) = v4 at q4 b4 b4' hsu
          have Q := hid (And.intro q0 (And.intro q1 (And.intro q2 (And.intro q3 q4))))
          have HSU := hid hsu
          have HL0 := hid (DecL.new HO.out #[.int .i64 0, .int .i64 0, .int .i64 0, .int .i64 0, .int .i64 0])
          clear q0 q1 q2 q3 q4 hsu hdl HO
          obtain ⟨L, hL⟩ : ∃ L, L = wo.heap.size := ⟨_, rfl⟩
          rw [← hL] at HL0
          have HLe := hid hL
          clear hL
          go_wp2_with fail
          rw [← HLe.out]
          refine (Q.out.1 _ HL0.out.b.rd).mono ?_
          rintro r w5 ⟨rfl, hr, hk⟩
          have HL1 := hid (HL0.out.read hk hr)
          have hc := (HL1.out.line.cell 0).trans (show _ = some (.int .i64 0) from rfl)
          have hf := HL1.out.line.frozen 0
          clear hr hk HL0
          go_wp2_with fail
          have HL2 := hid (HL1.out.store 0 (.int .i64 v0))
          clear HL1 hc hf
          refine (Q.out.2.1 _ HL2.out.b.rd).mono ?_
          rintro r w6 ⟨rfl, hr, hk⟩
          have HL3 := hid (HL2.out.read hk hr)
          have hc := (HL3.out.line.cell 1).trans (show _ = some (.int .i64 0) from rfl)
          have hf := HL3.out.line.frozen 1
          clear hr hk HL2
          go_wp2_with fail
          have HL4 := hid (HL3.out.store 1 (.int .i64 v1))
          clear HL3 hc hf
          refine wp_loop_rounds 4 ?_
          rw [rounds_succ]
          go_wp2_with fail
          refine (Q.out.2.2.1 _ HL4.out.b.rd).mono ?_
          rintro r w7 ⟨rfl, hr, hk⟩
          have HL5 := hid (HL4.out.read hk hr)
          have hc := (HL5.out.line.cell 2).trans (show _ = some (.int .i64 0) from rfl)
          have hf := HL5.out.line.frozen 2
          clear hr hk HL4
          go_wp2_with fail
          have HL6 := hid (HL5.out.store 2 (.int .i64 v2))
          clear HL5 hc hf
          rw [rounds_succ]
          go_wp2_with fail
          refine (Q.out.2.2.2.1 _ HL6.out.b.rd).mono ?_
          rintro r w8 ⟨rfl, hr, hk⟩
          have HL7 := hid (HL6.out.read hk hr)
          have hc := (HL7.out.line.cell 3).trans (show _ = some (.int .i64 0) from rfl)
          have hf := HL7.out.line.frozen 3
          clear hr hk HL6
          go_wp2_with fail
          have HL8 := hid (HL7.out.store 3 (.int .i64 v3))
          clear HL7 hc hf
          rw [rounds_succ]
          go_wp2_with fail
          refine (Q.out.2.2.2.2 _ HL8.out.b.rd).mono ?_
          rintro r w9 ⟨rfl, hr, hk⟩
          have HL9 := hid (HL8.out.read hk hr)
          have hc := (HL9.out.line.cell 4).trans (show _ = some (.int .i64 0) from rfl)
          have hf := HL9.out.line.frozen 4
          clear hr hk HL8
          go_wp2_with fail
          have HLa := hid (HL9.out.store 4 (.int .i64 v4))
          clear HL9 hc hf
          rw [rounds_succ]
          have hline : Hid (Box (w9.setCell ⟨L, 4, none⟩ (.int .i64 v4)) L 24 #[.int .i64 v0, .int .i64 v1, .int .i64 v2, .int .i64 v3, .int .i64 v4]) := HLa.out.line
          have hout := hid HLa.out.b.out
          have HB := hid HLa.out.b
          have hc0 := (HB.out.box.cell 0).trans (show _ = some (.slice A' kk cap') from rfl)
          clear HLa
          go_wp2_with (first | ((with_reducible refine wp_loadRow rfl 24 (.tmp 11) rfl hline ?_ ?_ ?_); exact sLine; rfl) | (at_builtin; refine wp_app1 eiLine rfl (.tmp 88) (.tmp 90) rfl hout _ rfl rfl (by simp) rfl rfl (by omega) (by omega) ?_))
          intro A5 cap5 w10 H10 G10
          obtain ⟨HBm, hbx⟩ := HB.out.more G10.out (by rw [HSU.out]; exact H10.out)
          have hc := (hbx.cell 0).trans (show _ = some (.slice A' kk cap') from rfl)
          have hf := hbx.frozen 0
          have HM := hid HBm
          clear HBm hbx hline hout HB hc0 H10 G10
          go_wp2
          go_roundg (cn - (kk + 1))
          case measure => omega
          case rel => exact ⟨kk + 1, A5, cap5, by omega, by omega, by go_num, HM.out⟩
        · have e : kk = cn := by omega
          subst e
          clear hg hkk hlt R4 R2
          have HCk := hid (fun W (h : Sees W A' (linesVs (Cfg.decBody x).lines)) => check_any (Cfg.decBody x) A' cap' W h (by rw [HLL.out]; omega))
          rw [HLL.out] at HCk
          have HCx : Hid (∀ W, Sees W A' (linesVs (Cfg.decBody x).lines) → Calls Tryd.prog 23 #[.agg (arrT (.slice A' kk cap') (Cfg.fK x 10))] W fun r w' => ∃ e, r = .returned e ∧ ErrIs w' e (Cfg.code (Cfg.decBody x)) ∧ Below W.heap.size W w') := HCk.out
          have HBX := hid HO.out.box
          have hsee := HO.out.out.sees
          rw [HLs.out] at hsee
          have HS := hid hsee
          clear hsee HCk
          go_wp2_with ((with_reducible refine wp_loadRow rfl 39 (.tmp 7) rfl HBX ?_ ?_ ?_); exact sConfig; rfl)
          refine (HCx.out _ HS.out).mono ?_
          rintro r w5 ⟨e5, rfl, he, hb5⟩
          have HE := hid he
          have HBX5 := hid (HBX.out.below hb5 HBX.out.lt)
          have HR5 : Hid (Box w5 w.heap.size 39 cfZ) := (HW.out.2.1.below HO.out.bel HW.out.2.1.lt).below hb5 (by have := HW.out.2.1.lt; have := HO.out.bel.size; omega)
          have HB5 := hid (HO.out.bel.trans (hb5.mono HO.out.bel.size))
          have HO5 := hid (HO.out.out.below hb5)
          unfold Cfg.code at he
          cases hok : Cfg.ok (Cfg.decBody x) with
          | true =>
            rw [hok] at he
            simp only [if_true] at he
            obtain rfl := he.nilOf
            have HK := hid hok
            clear he hb5 HE hok
            go_wp2_with (first | ((with_reducible refine wp_loadRow rfl 39 (.tmp 7) rfl HBX5 ?_ ?_ ?_); exact sConfig; rfl) | ((with_reducible refine wp_storeRow rfl 39 (.tmp 2) (.tmp 100) rfl HR5 (arrT (.slice A' kk cap') (Cfg.fK x 10)) ?_ ?_ ?_ ?_ ?_ ?_); exact sConfig; rfl; rfl; rfl; rfl))
            refine bodyPost_ret (v := .tuple #[.agg (arrT (.slice A' kk cap') (Cfg.fK x 10)), .nilIface]) (results_box2 rfl rfl (HR5.out.row _) sConfig rfl) rfl ?_
            unfold DecPost
            rw [if_pos HK.out, HLL.out]
            refine ⟨A', cap', rfl, ?_, ?_⟩
            · have h1 := own_base (HO5.out.1) (HW.out.2.2.size)
              rw [HLs.out] at h1
              refine own_kept h1 (grown_keep (grown_setRow w5 w.heap.size _)) ?_
              intro g' e1 e2
              have := (HO5.out.1.lt _ e1).1
              have := HW.out.2.1.lt
              injection e2 with e2
              omega
            · exact (HW.out.2.2.trans (HB5.out.mono HW.out.2.2.size)).grown (grown_setRow w5 w.heap.size _) (by have := HW.out.2.2.size; have := HB5.out.size; omega) (fun k hk => by injection hk with hk; omega)
          | false =>
            rw [hok] at he
            simp only [Bool.false_eq_true, if_false] at he
            have he' := he
            obtain ⟨te, ye, rfl⟩ := he'.ifaceOf (by omega)
            have HK := hid hok
            have HE6 := hid he
            clear he hb5 HE hok he'
            go_wp2_with ((with_reducible refine wp_storeSame rfl 39 (.tmp 2) (.tmp 98) rfl HR5 ?_ ?_ ?_ ?_ ?_); exact sConfig; rfl; rfl; rfl)
            refine bodyPost_ret (v := .tuple #[.agg cfZ, .iface te ye]) (results_box2 rfl rfl HR5.out sConfig rfl) rfl ?_
            unfold DecPost
            rw [if_neg (by rw [HK.out]; simp)]
            exact ⟨_, rfl, HE6.out, HW.out.2.2.trans (HB5.out.mono HW.out.2.2.size)⟩

theorem form_shape {x : List UInt8} (h : Cfg.form x = true) : ∃ c tl, x = [88, 66, 49] ++ c :: tl ∧ tl.length = 20 + 14 * c.toNat := by
  simp only [Cfg.form, Bool.and_eq_true, decide_eq_true_eq] at h
  obtain ⟨⟨h4, h3⟩, hl⟩ := h
  match x, h4 with
  | a :: b :: c :: d :: tl, _ =>
    refine ⟨d, tl, ?_, ?_⟩
    · simp at h3
      obtain ⟨rfl, rfl, rfl⟩ := h3
      rfl
    · have e : Cfg.at1 (a :: b :: c :: d :: tl) 3 = d.toNat := rfl
      rw [e] at hl
      simp at hl
      omega
theorem form_no {x : List UInt8} (h : Cfg.form x = false) : x.take 3 ≠ [88, 66, 49] ∨ ∃ t, x = [88, 66, 49] ++ t ∧ (t = [] ∨ ∃ c tl, t = c :: tl ∧ t.length + 3 ≠ 24 + 14 * c.toNat) := by
  by_cases h3 : x.take 3 = [88, 66, 49]
  · right
    refine ⟨x.drop 3, by rw [← h3, List.take_append_drop], ?_⟩
    by_cases h4 : x.length ≤ 3
    · left; exact List.drop_of_length_le h4
    · right
      refine ⟨x[3], x.drop 4, List.drop_eq_getElem_cons (by omega), ?_⟩
      intro e
      rw [List.length_drop] at e
      have e3 : Cfg.at1 x 3 = x[3].toNat := by
        unfold Cfg.at1
        rw [List.getD_eq_getElem?_getD, List.getElem?_eq_getElem (by omega)]
        rfl
      have : Cfg.form x = true := by
        simp only [Cfg.form, Bool.and_eq_true, decide_eq_true_eq]
        exact ⟨⟨by omega, h3⟩, by rw [e3]; omega⟩
      rw [this] at h
      cases h
  · exact .inl h3
theorem opened_len {b x : List UInt8} (h : Crc.opened b = some x) : x.length ≤ b.length := by
  unfold Crc.opened at h
  split at h
  · cases h
  · injection h with h
    rw [← h, List.length_take]
    omega

theorem decode_yes (v : Value) (b : List UInt8) (c : Cf) (w : World) (h : Byts w v b) (hlen : b.length ≤ 10000000000000) (hd : Cfg.dec b = .ok c) :
    Calls Tryd.prog 21 #[v] w fun r w' => ∃ A cap, r = .returned (.tuple #[cfV A c.lines.length cap c.times, .nilIface]) ∧ Out w w' 24 5 (.slice A c.lines.length cap) c.lines.length (linesVs c.lines) := by
  unfold Cfg.dec at hd
  split at hd
  · cases hd
  · rename_i x hx
    split at hd
    · rename_i hf
      split at hd
      · rename_i hk
        injection hd with hd
        subst hd
        obtain ⟨d, tl, e1, e2⟩ := form_shape hf
        refine (decode_form v b x d tl w h (by omega) hx e1 e2).mono ?_
        intro r w' hp
        unfold DecPost at hp
        rw [if_pos hk] at hp
        exact hp
      · cases hd
    · cases hd
theorem decode_no (v : Value) (b : List UInt8) (e : Int) (w : World) (h : Byts w v b) (hlen : b.length ≤ 10000000000000) (hd : Cfg.dec b = .error e) :
    Calls Tryd.prog 21 #[v] w fun r w' => ∃ x, r = .returned (.tuple #[.agg cfZ, x]) ∧ ErrIs w' x e ∧ Below w.heap.size w w' := by
  unfold Cfg.dec at hd
  split at hd
  · rename_i hx
    injection hd with hd
    subst hd
    exact decode_sum v b w h (by omega) hx
  · rename_i x hx
    split at hd
    · rename_i hf
      split at hd
      · cases hd
      · rename_i hk
        injection hd with hd
        subst hd
        obtain ⟨d, tl, e1, e2⟩ := form_shape hf
        refine (decode_form v b x d tl w h (by omega) hx e1 e2).mono ?_
        intro r w' hp
        unfold DecPost at hp
        rw [if_neg hk] at hp
        exact hp
    · rename_i hf
      injection hd with hd
      subst hd
      have hl := opened_len hx
      rcases form_no (by simpa using hf) with h3 | ⟨t, e1, ht⟩
      · exact decode_noprefix v b x w h (by omega) hx h3
      · subst e1
        exact decode_badlen v b t w h (by omega) hx (by simp at hl; omega) ht
end Go.Proofs.YtlijncmjcecppaaDoor
