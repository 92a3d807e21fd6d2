/- The small case of layer 8's statements: true. -/
import Derived.Test.YtlijncmjcecppaaDoorSame
import Derived.Test.YtlijncmjcecppaaDoorRef02
import Derived.Test.YtlijncmjcecppaaDoorCrossing
import Derived.Test.YtlijncmjcecppaaDoorFcode
namespace Go.Proofs.YtlijncmjcecppaaDoor
open Go.RowKit

theorem ErrTypeAt.keepTo {w w' : World} (h : ErrTypeAt w) (hb : Below w.heap.size w w') : ErrTypeAt w' := h.below hb

theorem dec_nil : Cfg.dec [] = .error 3 := rfl
theorem dec_xb : Cfg.dec (Crc.sealed [88, 66, 49, 0]) = .error 2 := by
  unfold Cfg.dec
  rw [Crc.opened_sealed]
  rfl
theorem dec_small : Cfg.dec (Cfg.enc (cf0 2 5)) = .ok (cf0 2 5) := Cfg.dec_enc _ (by decide)

/-- A crossing's cells under a name. -/
def cfR (A : Option Addr) (n cap : Nat) (t : Tm) : Array Value := #[.slice A n cap, .int .i64 t.amber, .int .i64 t.red, .int .i64 t.entry, .int .i64 t.travel, .int .i64 t.prove, .int .i64 t.opened, .int .i64 t.override, .int .i64 t.fresh, .int .i64 t.approach, .int .i64 t.warn]
theorem cfR_eq (A : Option Addr) (n cap : Nat) (t : Tm) : cfV A n cap t = .agg (cfR A n cap t) := rfl
theorem alloc_setRow (w : World) (Z cs : Array Value) (t : TypeId) : (w.alloc (.cells Z t)).setRow w.heap.size cs = w.alloc (.cells cs t) := by
  have e : ((w.alloc (.cells Z t)).setRow w.heap.size cs).heap = (w.alloc (.cells cs t)).heap := by
    apply Array.ext_getElem?
    intro i
    by_cases hi : i = w.heap.size
    · subst hi
      rw [setRow_heap _ _ Z cs t (0, 0) (heap_alloc_new w _), heap_alloc_new]
    · rw [setRow_other _ _ _ _ hi]
      show (w.heap.push _)[i]? = (w.heap.push _)[i]?
      rw [Array.getElem?_push, Array.getElem?_push, if_neg hi, if_neg hi]
  have e2 : (w.alloc (.cells Z t)).setRow w.heap.size cs = { w.alloc (.cells cs t) with heap := ((w.alloc (.cells Z t)).setRow w.heap.size cs).heap } := rfl
  rw [e2, e]
section
variable {ops : Array Oper} {rest : List Oper} {o : Oper} {a : Act} {Q : Exit → Act → World → Prop} {w : World}
/-- A row is stored into the newest block. -/
theorem wp_storeNew (hgd : o.guard = none) (ty : TypeId) (x y : Operand) (ho : o.op = .store ty x y) {Z : Array Value} {t' : TypeId} (cs : Array Value) (hi : SInfo ty cs.size) (hold : Z.size = cs.size) (hx : a.eval x = .pointer (some ⟨w.heap.size, 0, none⟩)) (hy : a.eval y = .agg cs)
    (h1 : cs.toList.all (fun u => u.oneCell') = true) (h : wpList Tryd.prog ops Q rest (a.put o.dst undef) (w.alloc (.cells cs t'))) : wpList Tryd.prog ops Q (o :: rest) a (w.alloc (.cells Z t')) := by
  refine wp_storeRow hgd ty x y ho (hid (Box.new w t' Z)) cs hi hold hx hy h1 ?_
  rw [alloc_setRow]
  exact h
/-- The same load under a guard that lets it run. -/
theorem wp_loadRowG (ty : TypeId) (x : Operand) (ho : o.op = .load ty x) {g : Nat} {t' : TypeId} {cs : Array Value} (H : Hid (Box w g t' cs)) (hw : Region.wanted o (yielded ops a.tmps) = true) (hi : SInfo ty cs.size) (hx : a.eval x = .pointer (some ⟨g, 0, none⟩))
    (h : wpList Tryd.prog ops Q rest (a.put o.dst (.agg cs)) w) : wpList Tryd.prog ops Q (o :: rest) a w := by
  obtain ⟨d, h1, h2, h3⟩ := hi
  refine wpList_step (fun K hK => ?_)
  rw [if_pos hw]
  exact wp_load_row ty x ho g hx t' cs _ d H.out.heap h1 (by cases d <;> exact h2) h3 (hK _ _ h)
end
theorem byts_xb0 (w : World) : Byts (w.alloc (.cells #[.int .u8 88, .int .u8 66, .int .u8 49, .int .u8 0] 5 (4, 5))) (.slice (some ⟨w.heap.size, 0, none⟩) 4 4) [88, 66, 49, 0] :=
  Byts.mark w [88, 66, 49, 0] 4 rfl #[.int .u8 88, .int .u8 66, .int .u8 49, .int .u8 0] rfl (4, 5)

set_option maxRecDepth 100000 in
set_option maxHeartbeats 4000000 in
theorem small8_any (w : World) (hg : ErrTypeAt w) :
    Calls Tryd.prog 18 #[] w fun r w' => r = .returned (.bool true) ∧ Below w.heap.size w w' := by
  have HG := hid hg
  clear hg
  go_enter Tryd.func18, Tryd.ntmps18
  go_wp2_with fail
  refine (crossing_any 2 5 _ (by omega)).mono ?_
  rintro r w1 ⟨A1, cap1, rfl, hs1, hb1⟩
  have elen : (cf0 2 5).lines.length = 2 := rfl
  rw [elen, cfR_eq]
  clear elen
  obtain ⟨x1, hx1⟩ : ∃ x, x = cfR A1 2 cap1 (cf0 2 5).times := ⟨_, rfl⟩
  have hsz1 : x1.size = 11 := by rw [hx1]; rfl
  have hal1 : x1.toList.all (fun u => u.oneCell') = true := by rw [hx1]; rfl
  rw [← hx1]
  have HX1 := hid (And.intro hx1 (And.intro hsz1 hal1))
  have H1 := hid (And.intro (hs1.alloc (.cells x1 39)) (And.intro (hb1.alloc hb1.size (.cells x1 39)) (Box.new w1 39 x1)))
  have HL := hid (And.intro H1.out.2.2 hb1)
  clear hs1 hb1 hx1 hsz1 hal1
  have HL1 := hid HL.out.1
  clear HL
  go_wp2_with (first | ((with_reducible refine wp_storeNew rfl 39 (.tmp 1) (.tmp 11) rfl x1 ?_ ?_ ?_ ?_ ?_ ?_); (rw [HX1.out.2.1]; exact sConfig); (rw [HX1.out.2.1]; rfl); rfl; rfl; exact HX1.out.2.2) | ((with_reducible refine wp_loadRow rfl 39 (.tmp 1) rfl HL1 ?_ ?_ ?_); (rw [HX1.out.2.1]; exact sConfig); rfl))
  have E1 := encode_ok (cf0 2 5) A1 cap1 (w1.alloc (.cells x1 39)) H1.out.1 (by decide)
  rw [show (cf0 2 5).lines.length = 2 from rfl, cfR_eq, ← HX1.out.1] at E1
  refine E1.mono ?_
  clear E1
  rintro r w2 ⟨v2, rfl, ho2⟩
  obtain ⟨A2, cap2, hv, _⟩ := ho2.form
  subst hv
  have H2 := hid (And.intro (HL1.out.below ho2.bel HL1.out.lt) (And.intro ho2.byts (And.intro (H1.out.1.below ho2.bel) (H1.out.2.1.trans (ho2.bel.mono H1.out.2.1.size)))))
  clear ho2 HL1 H1
  go_wp2_with fail
  refine (decode_yes _ _ _ _ H2.out.2.1 (by rw [Cfg.enc_length]; decide) dec_small).mono ?_
  rintro r w3 ⟨A3, cap3, rfl, ho3⟩
  rw [show (cf0 2 5).lines.length = 2 from rfl, cfR_eq]
  rw [show (cf0 2 5).lines.length = 2 from rfl] at ho3
  obtain ⟨x3, hx3⟩ : ∃ x, x = cfR A3 2 cap3 (cf0 2 5).times := ⟨_, rfl⟩
  rw [← hx3]
  have HX3 : Hid (x3 = cfR A3 2 cap3 (cf0 2 5).times ∧ x3.size = 11 ∧ x3.toList.all (fun u => u.oneCell') = true) := ⟨hx3, by rw [hx3]; rfl, by rw [hx3]; rfl⟩
  have H3 := hid (And.intro (H2.out.1.below ho3.bel H2.out.1.lt) (And.intro (H2.out.2.2.1.below ho3.bel) (And.intro ho3.sees (H2.out.2.2.2.trans (ho3.bel.mono H2.out.2.2.2.size)))))
  clear ho3 H2 hx3
  go_wp2_with ((with_reducible refine wp_storeNew rfl 39 (.tmp 4) (.tmp 20) rfl x3 ?_ ?_ ?_ ?_ ?_ ?_); (rw [HX3.out.2.1]; exact sConfig); (rw [HX3.out.2.1]; rfl); rfl; rfl; exact HX3.out.2.2)
  have H4 : Hid (Box (w3.alloc (.cells x3 39)) w1.heap.size 39 x1 ∧ Box (w3.alloc (.cells x3 39)) w3.heap.size 39 x3 ∧ Sees (w3.alloc (.cells x3 39)) A1 (linesVs (cf0 2 5).lines) ∧ Sees (w3.alloc (.cells x3 39)) A3 (linesVs (cf0 2 5).lines) ∧ Below w.heap.size w (w3.alloc (.cells x3 39))) :=
    ⟨H3.out.1.alloc _, Box.new _ _ _, H3.out.2.1.alloc _, H3.out.2.2.1.alloc _, H3.out.2.2.2.alloc H3.out.2.2.2.size _⟩
  clear H3
  refine (decode_no _ [] _ _ (Byts.nil _) (by simp) dec_nil).mono ?_
  rintro r w4 ⟨e4, rfl, he4, hb4⟩
  have H5 := hid (And.intro he4 (And.intro (H4.out.1.below hb4 H4.out.1.lt) (And.intro (H4.out.2.1.below hb4 H4.out.2.1.lt) (And.intro (H4.out.2.2.1.below hb4) (And.intro (H4.out.2.2.2.1.below hb4) (H4.out.2.2.2.2.trans (hb4.mono H4.out.2.2.2.2.size)))))))
  clear he4 hb4 H4
  have H6 : Hid (ErrIs (w4.alloc (.cells cfZ 39)) e4 3 ∧ Box (w4.alloc (.cells cfZ 39)) w1.heap.size 39 x1 ∧ Box (w4.alloc (.cells cfZ 39)) w3.heap.size 39 x3 ∧ Sees (w4.alloc (.cells cfZ 39)) A1 (linesVs (cf0 2 5).lines) ∧ Sees (w4.alloc (.cells cfZ 39)) A3 (linesVs (cf0 2 5).lines) ∧ Below w.heap.size w (w4.alloc (.cells cfZ 39))) :=
    ⟨H5.out.1.below ((Below.refl _ _).alloc (Nat.le_refl _) _), H5.out.2.1.alloc _, H5.out.2.2.1.alloc _, H5.out.2.2.2.1.alloc _, H5.out.2.2.2.2.1.alloc _, H5.out.2.2.2.2.2.alloc H5.out.2.2.2.2.2.size _⟩
  clear H5
  go_wp2_with ((with_reducible refine wp_storeNew rfl 39 (.tmp 6) (.tmp 24) rfl cfZ ?_ ?_ ?_ ?_ ?_ ?_); exact sConfig; rfl; rfl; rfl; rfl; (obtain ⟨w5, hw5⟩ : ∃ W, W = w4.alloc (.cells cfZ 39) := ⟨_, rfl⟩); rw [← hw5] at H6 ⊢; clear hw5; (have kc := fun (W : World) => Lib.run_convert_bytes_const (P := Tryd.prog) W 42 5 #[.int .u8 88, .int .u8 66, .int .u8 49, .int .u8 0] 4 4 Tryd.underlying42 Tryd.underlying5))
  refine (refSeal_any _ _ _ (byts_xb0 w5) (by simp)).mono ?_
  rintro r w6 ⟨v6, rfl, ho6⟩
  obtain ⟨A6, cap6, hv, _⟩ := ho6.form
  subst hv
  have hb6 : Below w5.heap.size w5 w6 := ((Below.refl _ _).alloc (Nat.le_refl _) _).trans (ho6.bel.mono (by simp))
  have H7 := hid (And.intro (And.intro (H6.out.1.below hb6) ho6.byts) (And.intro (H6.out.2.1.below hb6 H6.out.2.1.lt) (And.intro (H6.out.2.2.1.below hb6 H6.out.2.2.1.lt) (And.intro (H6.out.2.2.2.1.below hb6) (And.intro (H6.out.2.2.2.2.1.below hb6) (H6.out.2.2.2.2.2.trans (hb6.mono H6.out.2.2.2.2.2.size)))))))
  clear ho6 hb6 H6 kc
  go_wp2_with fail
  refine (decode_no _ _ _ _ H7.out.1.2 (by simp [Crc.sealed]) dec_xb).mono ?_
  rintro r w7 ⟨e7, rfl, he7, hb7⟩
  have H8 := hid (And.intro (And.intro (H7.out.1.1.below hb7) he7) (And.intro (H7.out.2.1.below hb7 H7.out.2.1.lt) (And.intro (H7.out.2.2.1.below hb7 H7.out.2.2.1.lt) (And.intro (H7.out.2.2.2.1.below hb7) (And.intro (H7.out.2.2.2.2.1.below hb7) (H7.out.2.2.2.2.2.trans (hb7.mono H7.out.2.2.2.2.2.size)))))))
  clear he7 hb7 H7
  go_wp2_with ((with_reducible refine wp_storeNew rfl 39 (.tmp 8) (.tmp 31) rfl cfZ ?_ ?_ ?_ ?_ ?_ ?_); exact sConfig; rfl; rfl; rfl; rfl)
  have hq8 : Below w7.heap.size w7 (w7.alloc (.cells cfZ 39)) := (Below.refl _ _).alloc (Nat.le_refl _) _
  have H9 := hid (And.intro (And.intro (H8.out.1.1.below hq8) (H8.out.1.2.below hq8)) (And.intro (H8.out.2.1.below hq8 H8.out.2.1.lt) (And.intro (H8.out.2.2.1.below hq8 H8.out.2.2.1.lt) (And.intro (H8.out.2.2.2.1.below hq8) (And.intro (H8.out.2.2.2.2.1.below hq8) (H8.out.2.2.2.2.2.trans (hq8.mono H8.out.2.2.2.2.2.size)))))))
  clear hq8 H8
  refine (crossing_any 1 0 _ (by omega)).mono ?_
  rintro r w8 ⟨A8, cap8, rfl, hs8, hb8⟩
  rw [show (cf0 1 0).lines.length = 1 from rfl, cfR_eq]
  obtain ⟨x8, hx8⟩ : ∃ x, x = cfR A8 1 cap8 (cf0 1 0).times := ⟨_, rfl⟩
  rw [← hx8]
  have HX8 : Hid (x8 = cfR A8 1 cap8 (cf0 1 0).times ∧ x8.size = 11 ∧ x8.toList.all (fun u => u.oneCell') = true) := ⟨hx8, by rw [hx8]; rfl, by rw [hx8]; rfl⟩
  have hq : Below w8.heap.size w8 (w8.alloc (.cells x8 39)) := (Below.refl _ _).alloc (Nat.le_refl _) _
  have hb8' := hb8.trans (hq.mono hb8.size)
  have HA := hid (And.intro (And.intro (H9.out.1.1.below hb8') (H9.out.1.2.below hb8')) (And.intro (H9.out.2.1.below hb8' H9.out.2.1.lt) (And.intro (H9.out.2.2.1.below hb8' H9.out.2.2.1.lt) (And.intro (H9.out.2.2.2.1.below hb8') (And.intro (H9.out.2.2.2.2.1.below hb8') (H9.out.2.2.2.2.2.trans (hb8'.mono H9.out.2.2.2.2.2.size)))))))
  have HB := hid (And.intro (hs8.below hq) (Box.new w8 39 x8))
  clear hs8 hb8 hb8' hq H9 hx8
  have L1 := hid HA.out.2.1
  have L3 := hid HA.out.2.2.1
  have L8 := hid HB.out.2
  go_wp2_with (first | ((with_reducible refine wp_storeNew rfl 39 (.tmp 10) (.tmp 33) rfl x8 ?_ ?_ ?_ ?_ ?_ ?_); (rw [HX8.out.2.1]; exact sConfig); (rw [HX8.out.2.1]; rfl); rfl; rfl; exact HX8.out.2.2) | ((with_reducible refine wp_loadRowG 39 (.tmp 1) rfl L1 ?_ ?_ ?_ ?_); rfl; (rw [HX1.out.2.1]; exact sConfig); rfl) | ((with_reducible refine wp_loadRowG 39 (.tmp 4) rfl L3 ?_ ?_ ?_ ?_); rfl; (rw [HX3.out.2.1]; exact sConfig); rfl))
  have CS := same_any (cf0 2 5) (cf0 2 5) A3 A1 cap3 cap1 (w8.alloc (.cells x8 39)) HA.out.2.2.2.2.1 HA.out.2.2.2.1 (by decide)
  rw [show (cf0 2 5).lines.length = 2 from rfl, cfR_eq, cfR_eq, ← HX1.out.1, ← HX3.out.1, decide_eq_true rfl] at CS
  refine CS.mono ?_
  clear CS L1 L3 L8
  rintro r w9 ⟨rfl, hb9⟩
  have I1 := hid (And.intro (And.intro (HA.out.1.1.below hb9) (HA.out.1.2.below hb9)) (And.intro (HA.out.2.1.below hb9 HA.out.2.1.lt) (And.intro (HB.out.2.below hb9 HB.out.2.lt) (And.intro (HA.out.2.2.2.1.below hb9) (And.intro (HB.out.1.below hb9) (HA.out.2.2.2.2.2.trans (hb9.mono HA.out.2.2.2.2.2.size)))))))
  clear hb9 HA HB
  go_wp2_with fail
  refine (code_any _ _ _ (HG.out.keepTo I1.out.2.2.2.2.2) I1.out.1.1).mono ?_
  rintro r wa ⟨rfl, hb9⟩
  have I2 := hid (And.intro (I1.out.1.2.below hb9) (And.intro (I1.out.2.1.below hb9 I1.out.2.1.lt) (And.intro (I1.out.2.2.1.below hb9 I1.out.2.2.1.lt) (And.intro (I1.out.2.2.2.1.below hb9) (And.intro (I1.out.2.2.2.2.1.below hb9) (I1.out.2.2.2.2.2.trans (hb9.mono I1.out.2.2.2.2.2.size)))))))
  clear hb9 I1
  go_wp2_with fail
  refine (code_any _ _ _ (HG.out.keepTo I2.out.2.2.2.2.2) I2.out.1).mono ?_
  rintro r wb ⟨rfl, hb9⟩
  have I3 := hid (And.intro (I2.out.2.1.below hb9 I2.out.2.1.lt) (And.intro (I2.out.2.2.1.below hb9 I2.out.2.2.1.lt) (And.intro (I2.out.2.2.2.1.below hb9) (And.intro (I2.out.2.2.2.2.1.below hb9) (I2.out.2.2.2.2.2.trans (hb9.mono I2.out.2.2.2.2.2.size))))))
  clear hb9 I2
  have L8 := hid I3.out.2.1
  go_wp2_with ((with_reducible refine wp_loadRowG 39 (.tmp 10) rfl L8 ?_ ?_ ?_ ?_); rfl; (rw [HX8.out.2.1]; exact sConfig); rfl)
  have CB := check_any (cf0 1 0) A8 cap8 wb I3.out.2.2.2.1 (by decide)
  rw [show Cfg.code (cf0 1 0) = 6 by decide, show (cf0 1 0).lines.length = 1 from rfl, cfR_eq, ← HX8.out.1] at CB
  refine CB.mono ?_
  clear CB L8
  rintro r wc ⟨ec, rfl, hec, hb9⟩
  have I4 := hid (And.intro hec (And.intro (I3.out.1.below hb9 I3.out.1.lt) (And.intro (I3.out.2.2.1.below hb9) (I3.out.2.2.2.2.trans (hb9.mono I3.out.2.2.2.2.size)))))
  clear hec hb9 I3
  go_wp2_with fail
  refine (code_any _ _ _ (HG.out.keepTo I4.out.2.2.2) I4.out.1).mono ?_
  rintro r wd ⟨rfl, hb9⟩
  have I5 := hid (And.intro (I4.out.2.1.below hb9 I4.out.2.1.lt) (And.intro (I4.out.2.2.1.below hb9) (I4.out.2.2.2.trans (hb9.mono I4.out.2.2.2.size))))
  clear hb9 I4
  have L1 := hid I5.out.1
  go_wp2_with ((with_reducible refine wp_loadRowG 39 (.tmp 1) rfl L1 ?_ ?_ ?_ ?_); rfl; (rw [HX1.out.2.1]; exact sConfig); rfl)
  have CB := check_any (cf0 2 5) A1 cap1 wd I5.out.2.1 (by decide)
  rw [show Cfg.code (cf0 2 5) = 0 by decide, show (cf0 2 5).lines.length = 2 from rfl, cfR_eq, ← HX1.out.1] at CB
  refine CB.mono ?_
  clear CB L1
  rintro r we ⟨ee, rfl, hee, hb9⟩
  obtain rfl := hee.nilOf
  have I6 := hid (I5.out.2.2.trans (hb9.mono I5.out.2.2.size))
  clear hee hb9 I5
  go_wp2_with fail
  have CB := check_any { lines := [], times := tm0 0 } none 0 we (Sees.nil _ _) (by simp)
  rw [show Cfg.code { lines := [], times := tm0 0 } = 6 by decide] at CB
  refine CB.mono ?_
  clear CB
  rintro r wf ⟨ef, rfl, hef, hb9⟩
  obtain ⟨tf, yf, rfl⟩ := hef.ifaceOf (by omega)
  have I7 := hid (I6.out.trans (hb9.mono I6.out.size))
  clear hef hb9 I6
  go_wp2
  go_ret
  exact ⟨rfl, I7.out⟩
end Go.Proofs.YtlijncmjcecppaaDoor
