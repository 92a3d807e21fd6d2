/- config.Decode by contract. -/
import Derived.Test.YtlijncmjcecppaaDoorText
import Derived.Test.YtlijncmjcecppaaDoorCrcOpen
import Derived.Test.YtlijncmjcecppaaDoorEncode
namespace Go.Proofs.YtlijncmjcecppaaDoor
open Go.RowKit

theorem sConfig : SInfo 39 11 := ⟨_, Tryd.underlying39, rfl, by kernel_rfl⟩
theorem sLine : SInfo 24 5 := ⟨_, Tryd.underlying24, rfl, by kernel_rfl⟩

theorem crcOpen_none (v : Value) (b : List UInt8) (w : World) (h : Byts w v b) (hlen : b.length ≤ 100000000000000) (ho : Crc.opened b = none) :
    Calls Tryd.prog 41 #[v] w fun r w' => r = .returned (.tuple #[.slice none 0 0, .bool false]) ∧ w = w' := by
  obtain ⟨A, cap, rfl, hs, hc, hn⟩ := h
  unfold Crc.opened at ho
  split at ho
  · rename_i hx
    by_cases h2 : b.length < 2
    · exact crcOpen_short A _ cap w h2
    · exact crcOpen_bad b A cap w hs hlen (by omega) (by rcases hx with hx | hx; omega; exact hx)
  · cases ho
theorem crcOpen_some (v : Value) (b x : List UInt8) (w : World) (h : Byts w v b) (hlen : b.length ≤ 100000000000000) (ho : Crc.opened b = some x) :
    Calls Tryd.prog 41 #[v] w fun r w' => ∃ v', r = .returned (.tuple #[v', .bool true]) ∧ Out w w' 5 1 v' x.length (byteVs x) ∧ v' ≠ .slice none 0 0 := by
  obtain ⟨A, cap, rfl, hs, hc, hn⟩ := h
  unfold Crc.opened at ho
  split at ho
  · cases ho
  · rename_i hx
    injection ho with ho
    have h2 : 2 ≤ b.length := by omega
    have h0 : Crc.sum b = 0 := by
      rcases Nat.eq_zero_or_pos (Crc.sum b) with h | h
      · exact h
      · exact absurd (Or.inr (by omega)) hx
    obtain ⟨a, rfl⟩ : ∃ a, A = some a := by
      cases A with
      | none => have := hn rfl; omega
      | some a => exact ⟨a, rfl⟩
    refine (crcOpen_ok b a cap w hs hc hlen h2 h0).mono ?_
    rintro r w' ⟨v, rfl, h1, h2, h3⟩
    refine ⟨v, rfl, ⟨?_, h3⟩, h2⟩
    have e : x.length = b.length - 2 := by rw [← ho]; simp
    rw [e, ← ho]
    exact h1

/-- No crossing: the cells of none. -/
def cfZ : Array Value := #[.slice none 0 0, .int .i64 0, .int .i64 0, .int .i64 0, .int .i64 0, .int .i64 0, .int .i64 0, .int .i64 0, .int .i64 0, .int .i64 0, .int .i64 0]

set_option maxHeartbeats 1000000 in
theorem decode_sum (v : Value) (b : List UInt8) (w : World) (h : Byts w v b) (hlen : b.length ≤ 100000000000000) (ho : Crc.opened b = none) :
    Calls Tryd.prog 21 #[v] w fun r w' => ∃ x, r = .returned (.tuple #[.agg cfZ, x]) ∧ ErrIs w' x 3 ∧ Below w.heap.size w w' := by
  have C := hid (fun W (h : Byts W v b) => crcOpen_none v b W h hlen ho)
  have HB := hid h
  clear h ho
  go_enter Tryd.func21, Tryd.ntmps21
  go_wp2_with fail
  refine (C.out _ (HB.out.alloc _)).mono ?_
  rintro r w1 ⟨rfl, rfl⟩
  have BX := Box.new w 39 cfZ
  go_wp2_with fail
  refine (new_err _ _ _ (by omega)).mono ?_
  rintro r w2 ⟨x, rfl, hx, _, hb⟩
  have hbx : Hid (Box w2 w.heap.size 39 cfZ) := Box.below BX hb (by simp)
  have X := hid (And.intro hx hb)
  clear hx hb BX
  go_wp2_with ((with_reducible refine wp_storeSame rfl 39 (.tmp 2) (.tmp 21) rfl hbx ?_ ?_ ?_ ?_ ?_); exact sConfig; rfl; rfl; rfl)
  exact bodyPost_ret (v := .tuple #[.agg cfZ, x]) (results_box2 rfl rfl hbx.out sConfig rfl) rfl ⟨_, rfl, X.out.1, ((Below.refl _ _).alloc (Nat.le_refl _) _).trans (X.out.2.mono (by simp))⟩

/-- A new block of bytes. -/
theorem Byts.mark (w : World) (l : List UInt8) (n : Nat) (hn : n = l.length) (cs : Array Value) (hc : cs.toList = byteVs l) (fr : Nat × Nat) : Byts (w.alloc (.cells cs 5 fr)) (.slice (some ⟨w.heap.size, 0, none⟩) n n) l := by
  subst hn
  refine ⟨_, _, rfl, fun j u hj => ⟨_, rfl, ?_⟩, Nat.le_refl _, fun h => by cases h⟩
  rw [add_lit, Nat.zero_add, World.cell?_alloc_mark, ← hj, ← hc]
  simp

theorem byts_xb1 (w : World) : Byts (w.alloc (.cells #[.int .u8 88, .int .u8 66, .int .u8 49] 5 (3, 4))) (.slice (some ⟨w.heap.size, 0, none⟩) 3 3) [88, 66, 49] :=
  Byts.mark w [88, 66, 49] 3 rfl #[.int .u8 88, .int .u8 66, .int .u8 49] rfl (3, 4)
theorem decode_noprefix (v : Value) (b x : List UInt8) (w : World) (h : Byts w v b) (hlen : b.length ≤ 100000000000000) (ho : Crc.opened b = some x) (hx : x.take 3 ≠ [88, 66, 49]) :
    Calls Tryd.prog 21 #[v] w fun r w' => ∃ x, r = .returned (.tuple #[.agg cfZ, x]) ∧ ErrIs w' x 2 ∧ Below w.heap.size w w' := by
  have C := hid (fun W (h : Byts W v b) => crcOpen_some v b x W h hlen ho)
  have HB := hid h
  have HX := hid hx
  clear h ho hx
  go_enter Tryd.func21, Tryd.ntmps21
  go_wp2_with fail
  refine (C.out _ (HB.out.alloc _)).mono ?_
  rintro r w1 ⟨v1, rfl, h1, hne⟩
  have BX := hid (Box.below (Box.new w 39 cfZ) h1.bel (by simp))
  have H1 := hid h1
  have hlt := BX.out.lt
  obtain ⟨A1, cap1, hv, _⟩ := h1.form
  subst hv
  have kc := fun (W : World) => Lib.run_convert_bytes_const (P := Tryd.prog) W 42 5 #[.int .u8 88, .int .u8 66, .int .u8 49] 3 3 Tryd.underlying42 Tryd.underlying5
  have CP := hid (cutPrefix_no (.slice A1 x.length cap1) (.slice (some ⟨w1.heap.size, 0, none⟩) 3 3) x [88, 66, 49] (w1.alloc (.cells #[.int .u8 88, .int .u8 66, .int .u8 49] 5 (3, 4)))
    (h1.byts.alloc _) (byts_xb1 w1) HX.out)
  clear h1 hne
  go_wp2_with fail
  refine CP.out.mono ?_
  rintro r w' ⟨rfl, rfl⟩
  go_wp2_with fail
  refine (new_err _ _ _ (by omega)).mono ?_
  rintro r w2 ⟨x2, rfl, hx, _, hb⟩
  have hb1 : Below w1.heap.size w1 w2 := ((Below.refl _ _).alloc (Nat.le_refl _) _).trans (hb.mono (by simp))
  have hbx : Hid (Box w2 w.heap.size 39 cfZ) := BX.out.below hb1 BX.out.lt
  have X := hid (And.intro hx hb1)
  clear hx hb BX hb1 kc
  go_wp2_with ((with_reducible refine wp_storeSame rfl 39 (.tmp 2) (.tmp 48) rfl hbx ?_ ?_ ?_ ?_ ?_); exact sConfig; rfl; rfl; rfl)
  exact bodyPost_ret (v := .tuple #[.agg cfZ, x2]) (results_box2 rfl rfl hbx.out sConfig rfl) rfl ⟨_, rfl, X.out.1, ((Below.refl _ _).alloc (Nat.le_refl _) _).trans ((H1.out.bel.trans (X.out.2.mono H1.out.le)).mono (by simp))⟩

theorem decode_badlen (v : Value) (b t : List UInt8) (w : World) (h : Byts w v b) (hlen : b.length ≤ 100000000000000) (ho : Crc.opened b = some ([88, 66, 49] ++ t)) (hlt : t.length ≤ 100000000000000) (ht : t = [] ∨ ∃ c tl, t = c :: tl ∧ t.length + 3 ≠ 24 + 14 * c.toNat) :
    Calls Tryd.prog 21 #[v] w fun r w' => ∃ x, r = .returned (.tuple #[.agg cfZ, x]) ∧ ErrIs w' x 2 ∧ Below w.heap.size w w' := by
  have C := hid (fun W (h : Byts W v b) => crcOpen_some v b _ W h hlen ho)
  have HB := hid h
  have HT := hid ht
  clear h ho ht
  go_enter Tryd.func21, Tryd.ntmps21
  go_wp2_with fail
  refine (C.out _ (HB.out.alloc _)).mono ?_
  rintro r w1 ⟨v1, rfl, h1, hne⟩
  have BX := hid (Box.below (Box.new w 39 cfZ) h1.bel (by simp))
  have H1 := hid h1
  have hltx := BX.out.lt
  obtain ⟨A1, cap1, hv, _⟩ := h1.form
  subst hv
  have kc := fun (W : World) => Lib.run_convert_bytes_const (P := Tryd.prog) W 42 5 #[.int .u8 88, .int .u8 66, .int .u8 49] 3 3 Tryd.underlying42 Tryd.underlying5
  have CP := hid (cutPrefix_ok (.slice A1 ([88, 66, 49] ++ t).length cap1) (.slice (some ⟨w1.heap.size, 0, none⟩) 3 3) t [88, 66, 49] (w1.alloc (.cells #[.int .u8 88, .int .u8 66, .int .u8 49] 5 (3, 4)))
    (h1.byts.alloc _) (byts_xb1 w1) (by simp; omega))
  have el : ([88, 66, 49] ++ t : List UInt8).length = t.length + 3 := by simp
  rw [el] at CP ⊢
  clear h1 hne el
  go_wp2_with fail
  refine CP.out.mono ?_
  rintro r w' ⟨vt, rfl, ht, rfl⟩
  have ht' := ht
  obtain ⟨A2, cap2, rfl, hs2, hc2, _⟩ := ht'
  have HTB := hid ht
  clear ht kc CP
  rcases HT.out with e | ⟨c, tl, e, hne⟩
  · subst e
    clear hs2 hc2 HT
    go_wp2_with fail
    refine (new_err _ _ _ (by omega)).mono ?_
    rintro r w2 ⟨x2, rfl, hx, _, hb⟩
    have hb1 : Below w1.heap.size w1 w2 := ((Below.refl _ _).alloc (Nat.le_refl _) _).trans (hb.mono (by simp))
    have hbx : Hid (Box w2 w.heap.size 39 cfZ) := BX.out.below hb1 BX.out.lt
    have X := hid (And.intro hx hb1)
    clear hx hb BX hb1
    go_wp2_with ((with_reducible refine wp_storeSame rfl 39 (.tmp 2) (.tmp 48) rfl hbx ?_ ?_ ?_ ?_ ?_); exact sConfig; rfl; rfl; rfl)
    exact bodyPost_ret (v := .tuple #[.agg cfZ, x2]) (results_box2 rfl rfl hbx.out sConfig rfl) rfl ⟨_, rfl, X.out.1, ((Below.refl _ _).alloc (Nat.le_refl _) _).trans ((H1.out.bel.trans (X.out.2.mono H1.out.le)).mono (by simp))⟩
  · subst e
    obtain ⟨bb, off, rfl, _, hcell⟩ := hs2.form (by simp [byteVs])
    have c1 : (w1.alloc (.cells #[.int .u8 88, .int .u8 66, .int .u8 49] 5 (3, 4))).cell? ⟨bb, off + 0, none⟩ = some (.int .u8 (c.toNat : Nat)) := hcell 0 _ rfl
    rw [Nat.add_zero] at c1
    have hcb := Crc.byte_lt c
    rw [List.length_cons] at hlt hne hc2
    rw [List.length_cons]
    generalize c.toNat = cn at c1 hcb hne
    generalize tl.length = n at hlt hne hc2
    have n1 : ((n : Int) + 1 == 0) = false := beq_eq_false_iff_ne.2 (by omega)
    have n2 : ((n : Int) + 1 + 3 != 24 + 14 * (cn : Int)) = true := by rw [bne_iff_ne]; omega
    clear hs2 hcell HT hne
    go_wp2_with fail
    refine (new_err _ _ _ (by omega)).mono ?_
    rintro r w2 ⟨x2, rfl, hx, _, hb⟩
    have hb1 : Below w1.heap.size w1 w2 := ((Below.refl _ _).alloc (Nat.le_refl _) _).trans (hb.mono (by simp))
    have hbx : Hid (Box w2 w.heap.size 39 cfZ) := BX.out.below hb1 BX.out.lt
    have X := hid (And.intro hx hb1)
    clear hx hb BX hb1
    go_wp2_with ((with_reducible refine wp_storeSame rfl 39 (.tmp 2) (.tmp 48) rfl hbx ?_ ?_ ?_ ?_ ?_); exact sConfig; rfl; rfl; rfl)
    exact bodyPost_ret (v := .tuple #[.agg cfZ, x2]) (results_box2 rfl rfl hbx.out sConfig rfl) rfl ⟨_, rfl, X.out.1, ((Below.refl _ _).alloc (Nat.le_refl _) _).trans ((H1.out.bel.trans (X.out.2.mono H1.out.le)).mono (by simp))⟩
end Go.Proofs.YtlijncmjcecppaaDoor
