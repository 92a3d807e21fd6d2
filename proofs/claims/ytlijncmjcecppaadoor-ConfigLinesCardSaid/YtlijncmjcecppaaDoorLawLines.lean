/- ConfigLines by contracts. -/
import Derived.Test.YtlijncmjcecppaaDoorLawBack
import Derived.Test.YtlijncmjcecppaaDoorDecSteps
import Derived.Deep.RegionLawGrows
import Derived.Deep.AppendLies
import Derived.Deep.DeepCutAuto
import Derived.Deep.RegionWith
namespace Go.Proofs.YtlijncmjcecppaaDoor
open Go.RowKit

section
variable {ops : Array Oper} {o : Oper} {a : Act} {w : World} {K : Act → World → Prop} {Q : Exit → Act → World → Prop} {E : Prop} {t e : TypeId} {size bytes : Nat}
/-- append onto an empty slice without room, as a step of a region that draws. -/
theorem step_app0 (I : EInfo t e size bytes) (hgd : o.guard = none) (s x : Operand) (ho : o.op = .call { callee := .builtin .append, args := #[s, x], argTypes := #[t, t] })
    (ad0 : Addr) (hs : a.eval s = .slice (some ad0) 0 0) (ad : Addr) (m c : Nat) (hx : a.eval x = .slice (some ad) m c) (news : List Value) (hl : news.length = m * size) (hsee : Sees w (some ad) news)
    (h1 : ∀ u ∈ news, u.oneCell' = true) (hm : 0 < m) (hb : m * bytes ≤ 140737488355328) (hm2 : m < 1000000000000000)
    (h : ∀ A' cap' w', Out w w' e size (.slice A' m cap') m news → w.grownBy w' none → K (a.put o.dst (.slice A' m cap')) w') :
    if Region.wanted o (yielded ops a.tmps) = true then Oper.wp Tryd.prog o a w K Q else E := by
  obtain ⟨i, z, hi, hz, hs1, hs2, hzs⟩ := I.inf
  refine step_append_grows hgd s x t ho e i z size bytes I.und hi hz hs1 hs2 hzs I.pos (some ad0) 0 0 [] hs (fun h => by cases h) (by simp) (fun b _ j u hj => by simp at hj) ad m c news hx hl hsee.some h1 (by omega) (by unfold maxLen; omega) (by simpa using hb) ?_
  intro v' w' hown hg
  simp only [Nat.zero_add, List.nil_append] at hown
  obtain ⟨A', cap', rfl, _⟩ := own_form hown
  exact h A' cap' w' ⟨hown, (Below.refl _ _).grown hg (Nat.le_refl _) (fun k hk => by cases hk)⟩ hg
/-- append of a row onto an owned slice, as a step of a region that draws. -/
theorem step_appOwn (I : EInfo t e size bytes) (hgd : o.guard = none) (s x : Operand) (ho : o.op = .call { callee := .builtin .append, args := #[s, x], argTypes := #[t, t] })
    {w0 : World} {v : Value} {n : Nat} {xs : List Value} (H : Out w0 w e size v n xs) (hs : a.eval s = v) (ad : Addr) (m c : Nat) (hx : a.eval x = .slice (some ad) m c) (news : List Value) (hl : news.length = m * size) (hsee : Sees w (some ad) news)
    (h1 : ∀ u ∈ news, u.oneCell' = true) (hm : 0 < m) (hb : (n + m) * bytes ≤ 140737488355328) (hm2 : n + m < 1000000000000000)
    (h : ∀ A' cap' w', Out w0 w' e size (.slice A' (n + m) cap') (n + m) (xs ++ news) → w.grownBy w' v.ownBlock → K (a.put o.dst (.slice A' (n + m) cap')) w') :
    if Region.wanted o (yielded ops a.tmps) = true then Oper.wp Tryd.prog o a w K Q else E := by
  obtain ⟨i, z, hi, hz, hs1, hs2, hzs⟩ := I.inf
  refine step_append_lies w hgd s x t ho w0.heap.size e i z size bytes I.und hi hz hs1 hs2 hzs I.pos v n xs hs H.1 ad m c news hx hl hsee.some h1 hm (by unfold maxLen; omega) hb H.le w.heap.size rfl ?_
  intro gg cap w' hown hg _ _
  exact h _ cap w' ⟨hown, H.2.grown hg H.le (fun k hk => (H.1.lt k hk).1)⟩ hg
end

theorem lnVs_oneCell (l : Ln) : ∀ u ∈ lnVs l, u.oneCell' = true := by
  intro u hu
  simp [lnVs, lnA] at hu
  rcases hu with rfl | rfl | rfl | rfl | rfl <;> rfl
theorem linesVs_oneCell (ls : List Ln) : ∀ u ∈ linesVs ls, u.oneCell' = true := by
  intro u hu
  simp only [linesVs, List.mem_flatMap, lnVs, lnA] at hu
  obtain ⟨l, _, hl⟩ := hu
  simp at hl
  rcases hl with rfl | rfl | rfl | rfl | rfl <;> rfl

set_option maxHeartbeats 1000000 in
theorem lines_skip (A : Option Addr) (n cap : Nat) (t : Tm) (l : Ln) (w : World) (hg : ErrTypeAt w) (h : decide (20 < (n : Int)) = true) :
    Calls Tryd.prog 9 #[cfV A n cap t, .agg (lnA l)] w fun r w' => r = .returned (.bool true) ∧ Below w.heap.size w w' := by
  have HG := hid hg
  have BX := hid ((Box.new w 39 (cfR A n cap t)).alloc (.cells (lnA l) 24))
  have BB := hid (((Below.refl w.heap.size w).alloc (Nat.le_refl _) (.cells (cfR A n cap t) 39)).alloc (by simp) (.cells (lnA l) 24))
  clear hg
  rw [cfR_eq]
  go_enter Tryd.func9, Tryd.ntmps9
  go_wp2_with fail
  refine (small8_any _ (HG.out.keepTo BB.out)).mono ?_
  rintro r w1 ⟨rfl, hb1⟩
  have hc := cells_cfR (BX.out.below hb1 BX.out.lt)
  have H1 := hid (BB.out.trans (hb1.mono (by simp; omega)))
  clear hb1
  go_wp2
  go_ret
  exact ⟨rfl, H1.out⟩
theorem lines_bad (c : Cf) (A : Option Addr) (cap : Nat) (l : Ln) (w : World) (hg : ErrTypeAt w) (hs : Sees w A (linesVs c.lines)) (h : decide (20 < (c.lines.length : Int)) = false) (hok : Cfg.ok c = false) :
    Calls Tryd.prog 9 #[cfV A c.lines.length cap c.times, .agg (lnA l)] w fun r w' => r = .returned (.bool true) ∧ Below w.heap.size w w' := by
  have HG := hid hg
  have CK := hid (fun W (h : Sees W A (linesVs c.lines)) => check_any c A cap W h (by simp at *; omega))
  unfold Cfg.code at CK
  rw [hok] at CK
  simp only [Bool.false_eq_true, if_false] at CK
  have HS := hid hs
  rw [cfR_eq] at CK ⊢
  generalize c.lines.length = n at *
  have BX := hid ((Box.new w 39 (cfR A n cap c.times)).alloc (.cells (lnA l) 24))
  have BB := hid (((Below.refl w.heap.size w).alloc (Nat.le_refl _) (.cells (cfR A n cap c.times) 39)).alloc (by simp) (.cells (lnA l) 24))
  clear hg hs hok
  go_enter Tryd.func9, Tryd.ntmps9
  go_wp2_with fail
  refine (small8_any _ (HG.out.keepTo BB.out)).mono ?_
  rintro r w1 ⟨rfl, hb1⟩
  have X1 := hid (BX.out.below hb1 BX.out.lt)
  have hc := cells_cfR X1.out
  have H1 := hid (BB.out.trans (hb1.mono (by simp; omega)))
  clear hb1
  go_wp2_with ((with_reducible refine wp_loadRowG 39 (.tmp 2) rfl X1 ?_ ?_ ?_ ?_); rfl; exact sConfig; rfl)
  refine (CK.out _ (HS.out.below H1.out)).mono ?_
  rintro r w2 ⟨e2, rfl, he2, hb2⟩
  obtain ⟨t2, y2, rfl⟩ := he2.ifaceOf (by omega)
  have H2 := hid (H1.out.trans (hb2.mono H1.out.size))
  clear he2 hb2 X1 hc H1
  go_wp2
  go_ret
  exact ⟨rfl, H2.out⟩

theorem sees_at {w : World} {g : Nat} {t : TypeId} {cs : Array Value} (h : Box w g t cs) : Sees w (some ⟨g, 0, none⟩) cs.toList := fun j u hj => ⟨_, rfl, by rw [add_lit, Nat.zero_add, h.cell]; simpa using hj⟩
theorem new2 (W : World) (ob : Obj) (x : Array Value) : Box ((W.alloc ob).alloc (.cells x 24)) (W.heap.size + 1) 24 x := by
  have := Box.new (W.alloc ob) 24 x
  rw [World.size_alloc] at this
  exact this
theorem box_carry {w w' : World} {g : Nat} {t : TypeId} {cs : Array Value} {e : TypeId} {size n : Nat} {v : Value} {xs : List Value} (h : Box w g t cs) (k : Out w w' e size v n xs) : Box w' g t cs := h.below k.bel h.lt
theorem six_ne : (6 : Int) ≠ 0 := by decide
theorem below_alloc' {w W : World} (h : Below w.heap.size w W) (o : Obj) : Below w.heap.size w (W.alloc o) := h.alloc h.size o
theorem below_comp {w W V : World} (h : Below w.heap.size w W) (k : Below W.heap.size W V) : Below w.heap.size w V := h.trans (k.mono h.size)
theorem out_drew {w0 w : World} {e : TypeId} {size n : Nat} {v : Value} {xs : List Value} (h : Out w0 w e size v n xs) : Out w0 w.drew e size v n xs := ⟨h.1, h.2.drew⟩
theorem linesS {w' : World} {B : Nat} {b0 off0 n cap : Nat} {t : Tm} {st sg s0 s1 s2 : Int} (hX : Box w' B 39 (cfR (some ⟨b0, off0, none⟩) n cap t)) (hL : Box w' (B + 1) 24 (lnA ⟨st, sg, s0, s1, s2⟩)) :
    w'.cell? ⟨B, 0, none⟩ = some (.slice (some ⟨b0, off0, none⟩) n cap) ∧ w'.cell? ⟨B + 1, 0, none⟩ = some (.int .i64 st) ∧ w'.cell? ⟨B + 1, 1, none⟩ = some (.int .i64 sg) ∧ w'.cell? ⟨B + 1, 2, none⟩ = some (.int .i64 s0) ∧ w'.cell? ⟨B + 1, 3, none⟩ = some (.int .i64 s1) ∧ w'.cell? ⟨B + 1, 4, none⟩ = some (.int .i64 s2) :=
  ⟨cells_cfR hX, (hL.cell 0).trans rfl, (hL.cell 1).trans rfl, (hL.cell 2).trans rfl, (hL.cell 3).trans rfl, (hL.cell 4).trans rfl⟩
/-- What stands behind the first statement of two appends: block M is the crossing with a line more. -/
def LinesF (w wx : World) (A : Option Addr) (n cap : Nat) (c : Cf) (l : Ln) (M : Nat) : Prop :=
  ∃ A' cap', Box wx M 39 (cfR A' (n + 1) cap' c.times) ∧ Sees wx A' (linesVs (c.lines ++ [l])) ∧ Box wx w.heap.size 39 (cfR A n cap c.times) ∧ Box wx (w.heap.size + 1) 24 (lnA l) ∧ Sees wx A (linesVs c.lines) ∧ Below w.heap.size w wx

set_option maxHeartbeats 4000000 in
set_option maxRecDepth 100000 in
theorem lines_main (c : Cf) (A : Option Addr) (cap : Nat) (l : Ln) (w : World) (hg : ErrTypeAt w) (hs : Sees w A (linesVs c.lines)) (hok : Cfg.ok c = true) :
    Calls Tryd.prog 9 #[cfV A c.lines.length cap c.times, .agg (lnA l)] w fun r w' => r = .returned (.bool true) ∧ Below w.heap.size w w' := by
  have HG := hid hg
  obtain ⟨n1, n8⟩ := ((Cfg.ok_iff c).1 hok).1
  have CK := hid (fun W (h : Sees W A (linesVs c.lines)) => check_any c A cap W h (by omega))
  unfold Cfg.code at CK
  rw [hok] at CK
  simp only [if_true] at CK
  have hok1 : Cfg.ok { c with lines := [l] } = Cfg.lineOk l := by
    unfold Cfg.ok at hok ⊢
    simp only [Bool.and_eq_true] at hok
    simp [hok.1.2, Cfg.inB]
  have hokm : Cfg.ok { c with lines := c.lines ++ [l] } = (Cfg.lineOk l && decide ((c.lines.length : Int) < 8)) := by
    unfold Cfg.ok at hok ⊢
    simp only [Bool.and_eq_true] at hok
    simp only [List.all_append, hok.1.2, hok.2, List.length_append, List.all_cons, List.all_nil, List.length_cons, List.length_nil]
    rw [show Cfg.inB (((c.lines.length + (0 + 1) : Nat)) : Int) 1 8 = decide ((c.lines.length : Int) < 8) by
      unfold Cfg.inB
      rw [decide_eq_true (by omega), Bool.true_and]
      congr 1]
    cases Cfg.lineOk l <;> cases (decide ((c.lines.length : Int) < 8)) <;> rfl
  have CM := hid (fun W A' cap' (h : Sees W A' (linesVs (c.lines ++ [l]))) => check_any { c with lines := c.lines ++ [l] } A' cap' W h (by simp; omega))
  have C1 := hid (fun W A' cap' (h : Sees W A' (linesVs [l])) => check_any { c with lines := [l] } A' cap' W h (by simp))
  unfold Cfg.code at CM C1
  rw [hokm] at CM
  rw [hok1] at C1
  simp only [List.length_append, List.length_cons, List.length_nil, Nat.zero_add] at CM C1
  have HS := hid hs
  have HLL := hid (And.intro (linesVs_length c.lines) (linesVs_oneCell c.lines))
  have HSn := hid (linesVs_snoc c.lines l)
  have B2 := hid (show Box ((w.alloc (.cells (cfR A c.lines.length cap c.times) 39)).alloc (.cells (lnA l) 24)) w.heap.size 39 (cfR A c.lines.length cap c.times) ∧ Box ((w.alloc (.cells (cfR A c.lines.length cap c.times) 39)).alloc (.cells (lnA l) 24)) (w.heap.size + 1) 24 (lnA l) ∧ Below w.heap.size w ((w.alloc (.cells (cfR A c.lines.length cap c.times) 39)).alloc (.cells (lnA l) 24)) by
    refine ⟨(Box.new w _ _).alloc _, ?_, ((Below.refl _ _).alloc (Nat.le_refl _) _).alloc (by simp) _⟩
    have := Box.new (w.alloc (.cells (cfR A c.lines.length cap c.times) 39)) 24 (lnA l)
    rw [World.size_alloc] at this
    exact this)
  clear hg hs hok hok1 hokm
  rw [cfR_eq] at CK ⊢
  obtain ⟨n, hnn⟩ : ∃ n, n = c.lines.length := ⟨_, rfl⟩
  rw [← hnn] at CK CM HLL B2 n1 n8 ⊢
  clear hnn
  have h20 : decide (20 < (n : Int)) = false := by simp; omega
  go_enter Tryd.func9, Tryd.ntmps9
  go_wp2_with fail
  refine (small8_any _ (HG.out.keepTo B2.out.2.2)).mono ?_
  rintro r w1 ⟨rfl, hb1⟩
  have X1 := hid (B2.out.1.below hb1 B2.out.1.lt)
  have L1 := hid (B2.out.2.1.below hb1 B2.out.2.1.lt)
  have hc := cells_cfR X1.out
  have H1 := hid (B2.out.2.2.trans (hb1.mono (by simp; omega)))
  clear hb1 B2
  go_wp2_with ((with_reducible refine wp_loadRowG 39 (.tmp 2) rfl X1 ?_ ?_ ?_ ?_); rfl; exact sConfig; rfl)
  refine (CK.out _ (HS.out.below H1.out)).mono ?_
  rintro r w2 ⟨e2, rfl, he2, hb2⟩
  obtain rfl := he2.nilOf
  have X2 := hid (X1.out.below hb2 X1.out.lt)
  have L2 := hid (L1.out.below hb2 L1.out.lt)
  have H2 := hid (H1.out.trans (hb2.mono H1.out.size))
  clear he2 hb2 X1 hc H1 L1 CK
  go_upto_region 5 with (first | ((with_reducible refine wp_loadRow rfl 39 (.tmp 2) rfl X2 ?_ ?_ ?_); exact sConfig; rfl) | ((with_reducible refine wp_storeNew rfl 39 (.tmp 6) (.tmp 19) rfl (cfR A n cap c.times) ?_ ?_ ?_ ?_ ?_ ?_); exact sConfig; rfl; rfl; rfl; rfl))
  simp only [Act.put]
  obtain ⟨W4, hW4⟩ : ∃ W, W = w2.alloc (.cells (cfR A n cap c.times) 39) := ⟨_, rfl⟩
  have X4 : Hid (Box W4 w.heap.size 39 (cfR A n cap c.times)) := by rw [hW4]; exact X2.out.alloc _
  have L4 : Hid (Box W4 (w.heap.size + 1) 24 (lnA l)) := by rw [hW4]; exact L2.out.alloc _
  have M4 : Hid (Box W4 w2.heap.size 39 (cfR A n cap c.times)) := by rw [hW4]; exact Box.new _ _ _
  have H4 : Hid (Below w.heap.size w W4 ∧ w.heap.size + 1 < w2.heap.size) := by rw [hW4]; exact ⟨H2.out.alloc H2.out.size _, L2.out.lt⟩
  rw [← hW4]
  clear hW4 X2 L2 H2
  go_cut [20] (fun _ wx => Hid (LinesF w wx A n cap c l w2.heap.size))
  case first =>
    have hsz := X4.out.lt
    have hszl := L4.out.lt
    have hszm := M4.out.lt
    obtain ⟨b0, off0, rfl, hb0, hcell0⟩ := HS.out.form (by rw [HLL.out.1]; omega)
    have see0 : Hid (Sees W4 (some ⟨b0, off0, none⟩) (linesVs c.lines)) := HS.out.below H4.out.1
    clear hcell0
    have HB0 := hid hb0
    clear hb0
    have hlt2 := H4.out.2
    have cA : W4.cell? ⟨w.heap.size, 0, none⟩ = some (.slice (some ⟨b0, off0, none⟩) n cap) := cells_cfR X4.out
    obtain ⟨st, sg, s0, s1, s2⟩ := l
    have l0 := (L4.out.cell 0).trans (show _ = some (.int .i64 st) from rfl)
    have l1 := (L4.out.cell 1).trans (show _ = some (.int .i64 sg) from rfl)
    have l2 := (L4.out.cell 2).trans (show _ = some (.int .i64 s0) from rfl)
    have l3 := (L4.out.cell 3).trans (show _ = some (.int .i64 s1) from rfl)
    have l4 := (L4.out.cell 4).trans (show _ = some (.int .i64 s2) from rfl)
    go_region_held3 (fun w' => w'.cell? ⟨w.heap.size, 0, none⟩ = some (.slice (some ⟨b0, off0, none⟩) n cap) ∧ w'.cell? ⟨w.heap.size + 1, 0, none⟩ = some (.int .i64 st) ∧ w'.cell? ⟨w.heap.size + 1, 1, none⟩ = some (.int .i64 sg) ∧ w'.cell? ⟨w.heap.size + 1, 2, none⟩ = some (.int .i64 s0) ∧ w'.cell? ⟨w.heap.size + 1, 3, none⟩ = some (.int .i64 s1) ∧ w'.cell? ⟨w.heap.size + 1, 4, none⟩ = some (.int .i64 s2))
      (first | go_keep | exact linesS (X4.out.below HB5.out X4.out.lt) (L4.out.below HB5.out L4.out.lt) | exact linesS (X4.out.below HB6.out X4.out.lt) (L4.out.below HB6.out L4.out.lt) | exact linesS ((X4.out.below HB6.out X4.out.lt).aside (by simp; omega) _) ((L4.out.below HB6.out L4.out.lt).aside (by simp; omega) _))
      (first | (refine step_app0 eiLine rfl (.tmp 20) (.tmp 22) rfl _ rfl _ n cap rfl (linesVs c.lines) ?_ ?_ ?_ ?_ ?_ ?_ ?_; (rw [HLL.out.1]; omega); (first | exact see0.out.alloc _ | exact (see0.out.alloc _).alloc _ | exact see0.out); exact HLL.out.2; omega; omega; omega; (intro A5 cap5 w5 ho5 hg5; have HB5 : Hid (Below W4.heap.size W4 w5) := below_comp (by repeat (first | exact Below.refl _ _ | refine Below.drew ?_ | refine below_alloc' ?_ _)) ho5.bel; (first | have hbx := box_carry (new2 W4 (.cells #[] 24) #[.int .i64 st, .int .i64 sg, .int .i64 s0, .int .i64 s1, .int .i64 s2]).drew ho5 | have hbx := box_carry ((Box.new W4 24 #[.int .i64 st, .int .i64 sg, .int .i64 s0, .int .i64 s1, .int .i64 s2]).alloc (.cells #[] 24)).drew ho5 | skip); obtain ⟨W5, HO5, HBW⟩ : ∃ W5, Hid (Out W5 w5 24 5 (.slice A5 n cap5) n (linesVs c.lines)) ∧ Hid (Below W4.heap.size W4 W5) := ⟨_, ho5, by repeat (first | exact Below.refl _ _ | refine Below.drew ?_ | refine below_alloc' ?_ _)⟩; clear ho5 hg5)) | (refine step_appOwn eiLine rfl (.tmp 23) (.tmp 25) rfl (w0 := W5) (v := .slice A5 n cap5) (n := n) (xs := linesVs c.lines) ?_ rfl _ 1 1 rfl [.int .i64 st, .int .i64 sg, .int .i64 s0, .int .i64 s1, .int .i64 s2] ?_ ?_ ?_ ?_ ?_ ?_ ?_; (first | exact HO5.out | exact HO5.out.below ((Below.refl _ _).alloc (Nat.le_refl _) _)); rfl; (first | exact sees_at (Box.new w5 _ _) | exact sees_at hbx); exact lnVs_oneCell ⟨st, sg, s0, s1, s2⟩; omega; omega; omega; (intro A6 cap6 w6 ho6 hg6; have HB6 : Hid (Below W4.heap.size W4 w6) := below_comp HBW.out ho6.bel; have HO6 := hid ho6; clear ho6 hg6; have cM := (M4.out.below HB6.out M4.out.lt).cell 0; rw [show (cfR (some ⟨b0, off0, none⟩) n cap c.times)[0]? = some (.slice (some ⟨b0, off0, none⟩) n cap) from rfl] at cM; have fM := (M4.out.below HB6.out M4.out.lt).frozen 0)))
    all_goals
      have hMs : Box (w6.setCell ⟨w2.heap.size, 0, none⟩ (.slice A6 (n + 1) cap6)) w2.heap.size 39 (cfR A6 (n + 1) cap6 c.times) := (M4.out.below HB6.out M4.out.lt).store 0 _
      have hout := own_aside HO6.out.1 (own_ne_box HO6.out.1 (M4.out.below HB6.out M4.out.lt) (by decide)) (p := ⟨w2.heap.size, 0, none⟩) (.slice A6 (n + 1) cap6)
      have hfin : LinesF w (w6.setCell ⟨w2.heap.size, 0, none⟩ (.slice A6 (n + 1) cap6)) (some ⟨b0, off0, none⟩) n cap c ⟨st, sg, s0, s1, s2⟩ w2.heap.size := by
        refine ⟨A6, cap6, hMs, ?_, (X4.out.below HB6.out X4.out.lt).aside (by simp; omega) _, (L4.out.below HB6.out L4.out.lt).aside (by simp; omega) _, ?_, ?_⟩
        · rw [HSn.out]
          exact Sees.own hout
        · refine ((see0.out.below HB6.out).kept (Keep.set _ _ _ _) ?_)
          intro a ha e
          injection ha with ha
          subst ha
          have := HB0.out
          simp only at e
          omega
        · exact (H4.out.1.trans (HB6.out.mono H4.out.1.size)).setCell (by simp; omega) _
      have HF := hid hfin
      clear hMs hout hfin cM fM
      go_wp2_with fail
      go_meet
      exact HF.out
  case rest =>
    obtain ⟨A5, cap5, X5, S5, C5, L5, Z5, H5⟩ := hcut.out
    obtain ⟨st, sg, s0, s1, s2⟩ := l
    have CM' : Hid (∀ W, Sees W A5 (linesVs (c.lines ++ [⟨st, sg, s0, s1, s2⟩])) → Calls Tryd.prog 23 #[.agg #[.slice A5 (n + 1) cap5, .int .i64 c.times.amber, .int .i64 c.times.red, .int .i64 c.times.entry, .int .i64 c.times.travel, .int .i64 c.times.prove, .int .i64 c.times.opened, .int .i64 c.times.override, .int .i64 c.times.fresh, .int .i64 c.times.approach, .int .i64 c.times.warn]] W fun r w' => ∃ x, r = .returned x ∧ ErrIs w' x (if (Cfg.lineOk ⟨st, sg, s0, s1, s2⟩ && decide ((n : Int) < 8)) = true then 0 else 6) ∧ Below W.heap.size W w') := fun W h => CM.out W A5 cap5 h
    have C1' : Hid (∀ W A', Sees W A' (linesVs [⟨st, sg, s0, s1, s2⟩]) → Calls Tryd.prog 23 #[.agg #[.slice A' 1 1, .int .i64 c.times.amber, .int .i64 c.times.red, .int .i64 c.times.entry, .int .i64 c.times.travel, .int .i64 c.times.prove, .int .i64 c.times.opened, .int .i64 c.times.override, .int .i64 c.times.fresh, .int .i64 c.times.approach, .int .i64 c.times.warn]] W fun r w' => ∃ x, r = .returned x ∧ ErrIs w' x (if Cfg.lineOk ⟨st, sg, s0, s1, s2⟩ = true then 0 else 6) ∧ Below W.heap.size W w') := fun W A' h => C1.out W A' 1 h
    generalize Cfg.lineOk ⟨st, sg, s0, s1, s2⟩ = q at CM' C1'
    have hS1 : linesVs [⟨st, sg, s0, s1, s2⟩] = [.int .i64 st, .int .i64 sg, .int .i64 s0, .int .i64 s1, .int .i64 s2] := rfl
    obtain ⟨W8, hW8⟩ : ∃ W, W = (wc.alloc (.cells ((cfR A n cap c.times).setIfInBounds 0 (.slice (some ⟨wc.heap.size + 1, 0, none⟩) 1 1)) 39)).alloc (.cells #[.int .i64 st, .int .i64 sg, .int .i64 s0, .int .i64 s1, .int .i64 s2] 24) := ⟨_, rfl⟩
    have hb8 : Below wc.heap.size wc W8 := by rw [hW8]; exact ((Below.refl _ _).alloc (Nat.le_refl _) _).alloc (by simp) _
    have N8 : Box W8 wc.heap.size 39 (cfR (some ⟨wc.heap.size + 1, 0, none⟩) 1 1 c.times) := by rw [hW8]; exact (Box.new _ _ _).alloc _
    have T8 : Sees W8 (some ⟨wc.heap.size + 1, 0, none⟩) (linesVs [⟨st, sg, s0, s1, s2⟩]) := by
      rw [hS1, hW8]
      exact sees_at (new2 _ _ _)
    have F8 := hid (And.intro N8 (And.intro T8 (And.intro (X5.below hb8 X5.lt) (And.intro (S5.below hb8) (And.intro (C5.below hb8 C5.lt) (H5.trans (hb8.mono H5.size)))))))
    have hcz := X5.lt
    have hcB := C5.lt
    have cN := cells_cfR (Box.new wc 39 (cfR A n cap c.times))
    have fN := (Box.new wc 39 (cfR A n cap c.times)).frozen 0
    have X6 := hid C5
    have l0 := (L5.cell 0).trans (show _ = some (.int .i64 st) from rfl)
    have l1 := (L5.cell 1).trans (show _ = some (.int .i64 sg) from rfl)
    have l2 := (L5.cell 2).trans (show _ = some (.int .i64 s0) from rfl)
    have l3 := (L5.cell 3).trans (show _ = some (.int .i64 s1) from rfl)
    have l4 := (L5.cell 4).trans (show _ = some (.int .i64 s2) from rfl)
    have hl5 := L5.lt
    have HNW := hid hW8
    clear hcut X5 S5 C5 L5 Z5 H5 CM C1 hS1 hW8 hb8 N8 T8 X4 L4 M4 H4 HSn HLL
    go_wp2_with (first | ((with_reducible refine wp_loadRow rfl 39 (.tmp 2) rfl X6 ?_ ?_ ?_); exact sConfig; rfl) | ((with_reducible refine wp_storeNew rfl 39 (.tmp 7) (.tmp 28) rfl (cfR A n cap c.times) ?_ ?_ ?_ ?_ ?_ ?_); exact sConfig; rfl; rfl; rfl; rfl))
    rw [← HNW.out]
    clear cN fN X6 l0 l1 l2 l3 l4
    have hlen : decide ((n : Int) < 8) = true ∨ decide ((n : Int) < 8) = false := by cases decide ((n : Int) < 8) <;> simp
    have hqd : (q = true ∧ decide ((n : Int) < 8) = true) ∨ (q = true ∧ decide ((n : Int) < 8) = false) ∨ q = false := by
      cases q
      · exact .inr (.inr rfl)
      · rcases hlen with h | h
        · exact .inl ⟨rfl, h⟩
        · exact .inr (.inl ⟨rfl, h⟩)
    clear hlen
    rcases hqd with ⟨rfl, hd⟩ | ⟨rfl, hd⟩ | rfl
    · rw [hd] at CM'
      simp only [Bool.and_self, if_true] at CM' C1'
      go_region_held3 (fun w' => (w'.cell? ⟨w2.heap.size, 0, none⟩ = some (.slice A5 (n + 1) cap5) ∧ w'.cell? ⟨w2.heap.size, 1, none⟩ = some (.int .i64 c.times.amber) ∧ w'.cell? ⟨w2.heap.size, 2, none⟩ = some (.int .i64 c.times.red) ∧ w'.cell? ⟨w2.heap.size, 3, none⟩ = some (.int .i64 c.times.entry) ∧ w'.cell? ⟨w2.heap.size, 4, none⟩ = some (.int .i64 c.times.travel) ∧ w'.cell? ⟨w2.heap.size, 5, none⟩ = some (.int .i64 c.times.prove) ∧ w'.cell? ⟨w2.heap.size, 6, none⟩ = some (.int .i64 c.times.opened) ∧ w'.cell? ⟨w2.heap.size, 7, none⟩ = some (.int .i64 c.times.override) ∧ w'.cell? ⟨w2.heap.size, 8, none⟩ = some (.int .i64 c.times.fresh) ∧ w'.cell? ⟨w2.heap.size, 9, none⟩ = some (.int .i64 c.times.approach) ∧ w'.cell? ⟨w2.heap.size, 10, none⟩ = some (.int .i64 c.times.warn)) ∧ (w'.cell? ⟨wc.heap.size, 0, none⟩ = some (.slice (some ⟨wc.heap.size + 1, 0, none⟩) 1 1) ∧ w'.cell? ⟨wc.heap.size, 1, none⟩ = some (.int .i64 c.times.amber) ∧ w'.cell? ⟨wc.heap.size, 2, none⟩ = some (.int .i64 c.times.red) ∧ w'.cell? ⟨wc.heap.size, 3, none⟩ = some (.int .i64 c.times.entry) ∧ w'.cell? ⟨wc.heap.size, 4, none⟩ = some (.int .i64 c.times.travel) ∧ w'.cell? ⟨wc.heap.size, 5, none⟩ = some (.int .i64 c.times.prove) ∧ w'.cell? ⟨wc.heap.size, 6, none⟩ = some (.int .i64 c.times.opened) ∧ w'.cell? ⟨wc.heap.size, 7, none⟩ = some (.int .i64 c.times.override) ∧ w'.cell? ⟨wc.heap.size, 8, none⟩ = some (.int .i64 c.times.fresh) ∧ w'.cell? ⟨wc.heap.size, 9, none⟩ = some (.int .i64 c.times.approach) ∧ w'.cell? ⟨wc.heap.size, 10, none⟩ = some (.int .i64 c.times.warn)) ∧ w'.cell? ⟨w.heap.size, 0, none⟩ = some (.slice A n cap))
        (first | exact ⟨cfgCells F8.out.2.2.1, cfgCells F8.out.1, cells_cfR F8.out.2.2.2.2.1⟩ | exact ⟨cfgCells (F8.out.2.2.1.below H9.out F8.out.2.2.1.lt), cfgCells (F8.out.1.below H9.out F8.out.1.lt), cells_cfR (F8.out.2.2.2.2.1.below H9.out F8.out.2.2.2.2.1.lt)⟩ | exact ⟨cfgCells (F8.out.2.2.1.below Ha.out F8.out.2.2.1.lt), cfgCells (F8.out.1.below Ha.out F8.out.1.lt), cells_cfR (F8.out.2.2.2.2.1.below Ha.out F8.out.2.2.2.2.1.lt)⟩)
        (first | (go_at_call 23; ((with_reducible refine (CM'.out W8.drew F8.out.2.2.2.1.drew).mono ?_); rintro r w9 ⟨e9, rfl, he9, hb9⟩; have H9 : Hid (Below W8.heap.size W8 w9) := below_pre hb9; have e1 := he9.nilOf; subst e1; clear hb9 he9)) | (go_at_call 23; ((with_reducible refine (C1'.out W8.drew _ F8.out.2.1.drew).mono ?_); rintro r w9 ⟨e9, rfl, he9, hb9⟩; have H9 : Hid (Below W8.heap.size W8 w9) := below_pre hb9; have e1 := he9.nilOf; subst e1; clear hb9 he9)) | (go_at_call 23; ((with_reducible refine (CM'.out w9 (F8.out.2.2.2.1.below H9.out)).mono ?_); rintro r wa ⟨e9, rfl, he9, hb9⟩; have Ha : Hid (Below W8.heap.size W8 wa) := below_comp H9.out hb9; have e1 := he9.nilOf; subst e1; clear hb9 he9)) | (go_at_call 23; ((with_reducible refine (C1'.out w9 _ (F8.out.2.1.below H9.out)).mono ?_); rintro r wa ⟨e9, rfl, he9, hb9⟩; have Ha : Hid (Below W8.heap.size W8 wa) := below_comp H9.out hb9; have e1 := he9.nilOf; subst e1; clear hb9 he9)) | fail)
      all_goals
        go_wp2
        go_ret
        exact ⟨rfl, F8.out.2.2.2.2.2.trans (Ha.out.mono F8.out.2.2.2.2.2.size)⟩
    · rw [hd] at CM'
      simp only [Bool.and_false, Bool.false_eq_true, if_false, if_true] at CM' C1'
      go_region_held3 (fun w' => (w'.cell? ⟨w2.heap.size, 0, none⟩ = some (.slice A5 (n + 1) cap5) ∧ w'.cell? ⟨w2.heap.size, 1, none⟩ = some (.int .i64 c.times.amber) ∧ w'.cell? ⟨w2.heap.size, 2, none⟩ = some (.int .i64 c.times.red) ∧ w'.cell? ⟨w2.heap.size, 3, none⟩ = some (.int .i64 c.times.entry) ∧ w'.cell? ⟨w2.heap.size, 4, none⟩ = some (.int .i64 c.times.travel) ∧ w'.cell? ⟨w2.heap.size, 5, none⟩ = some (.int .i64 c.times.prove) ∧ w'.cell? ⟨w2.heap.size, 6, none⟩ = some (.int .i64 c.times.opened) ∧ w'.cell? ⟨w2.heap.size, 7, none⟩ = some (.int .i64 c.times.override) ∧ w'.cell? ⟨w2.heap.size, 8, none⟩ = some (.int .i64 c.times.fresh) ∧ w'.cell? ⟨w2.heap.size, 9, none⟩ = some (.int .i64 c.times.approach) ∧ w'.cell? ⟨w2.heap.size, 10, none⟩ = some (.int .i64 c.times.warn)) ∧ (w'.cell? ⟨wc.heap.size, 0, none⟩ = some (.slice (some ⟨wc.heap.size + 1, 0, none⟩) 1 1) ∧ w'.cell? ⟨wc.heap.size, 1, none⟩ = some (.int .i64 c.times.amber) ∧ w'.cell? ⟨wc.heap.size, 2, none⟩ = some (.int .i64 c.times.red) ∧ w'.cell? ⟨wc.heap.size, 3, none⟩ = some (.int .i64 c.times.entry) ∧ w'.cell? ⟨wc.heap.size, 4, none⟩ = some (.int .i64 c.times.travel) ∧ w'.cell? ⟨wc.heap.size, 5, none⟩ = some (.int .i64 c.times.prove) ∧ w'.cell? ⟨wc.heap.size, 6, none⟩ = some (.int .i64 c.times.opened) ∧ w'.cell? ⟨wc.heap.size, 7, none⟩ = some (.int .i64 c.times.override) ∧ w'.cell? ⟨wc.heap.size, 8, none⟩ = some (.int .i64 c.times.fresh) ∧ w'.cell? ⟨wc.heap.size, 9, none⟩ = some (.int .i64 c.times.approach) ∧ w'.cell? ⟨wc.heap.size, 10, none⟩ = some (.int .i64 c.times.warn)) ∧ w'.cell? ⟨w.heap.size, 0, none⟩ = some (.slice A n cap))
        (first | exact ⟨cfgCells F8.out.2.2.1, cfgCells F8.out.1, cells_cfR F8.out.2.2.2.2.1⟩ | exact ⟨cfgCells (F8.out.2.2.1.below H9.out F8.out.2.2.1.lt), cfgCells (F8.out.1.below H9.out F8.out.1.lt), cells_cfR (F8.out.2.2.2.2.1.below H9.out F8.out.2.2.2.2.1.lt)⟩ | exact ⟨cfgCells (F8.out.2.2.1.below Ha.out F8.out.2.2.1.lt), cfgCells (F8.out.1.below Ha.out F8.out.1.lt), cells_cfR (F8.out.2.2.2.2.1.below Ha.out F8.out.2.2.2.2.1.lt)⟩)
        (first | (go_at_call 23; ((with_reducible refine (CM'.out W8.drew F8.out.2.2.2.1.drew).mono ?_); rintro r w9 ⟨e9, rfl, he9, hb9⟩; have H9 : Hid (Below W8.heap.size W8 w9) := below_pre hb9; obtain ⟨te, ye, e1⟩ := he9.ifaceOf six_ne; subst e1; clear hb9 he9)) | (go_at_call 23; ((with_reducible refine (C1'.out W8.drew _ F8.out.2.1.drew).mono ?_); rintro r w9 ⟨e9, rfl, he9, hb9⟩; have H9 : Hid (Below W8.heap.size W8 w9) := below_pre hb9; have e1 := he9.nilOf; subst e1; clear hb9 he9)) | (go_at_call 23; ((with_reducible refine (CM'.out w9 (F8.out.2.2.2.1.below H9.out)).mono ?_); rintro r wa ⟨e9, rfl, he9, hb9⟩; have Ha : Hid (Below W8.heap.size W8 wa) := below_comp H9.out hb9; obtain ⟨te2, ye2, e1⟩ := he9.ifaceOf six_ne; subst e1; clear hb9 he9)) | (go_at_call 23; ((with_reducible refine (C1'.out w9 _ (F8.out.2.1.below H9.out)).mono ?_); rintro r wa ⟨e9, rfl, he9, hb9⟩; have Ha : Hid (Below W8.heap.size W8 wa) := below_comp H9.out hb9; have e1 := he9.nilOf; subst e1; clear hb9 he9)) | fail)
      all_goals
        go_wp2
        go_ret
        exact ⟨rfl, F8.out.2.2.2.2.2.trans (Ha.out.mono F8.out.2.2.2.2.2.size)⟩
    · simp only [Bool.false_and, Bool.false_eq_true, if_false] at CM' C1'
      obtain ⟨p0, p1, p2, p3, p4, p5, p6, p7, p8, p9, p10⟩ := cfgCells F8.out.2.2.1
      obtain ⟨q0, q1, q2, q3, q4, q5, q6, q7, q8, q9, q10⟩ := cfgCells F8.out.1
      first | go_region_with (first | (go_at_call 23; ((with_reducible refine (CM'.out W8.drew F8.out.2.2.2.1.drew).mono ?_); rintro r w9 ⟨e9, rfl, he9, hb9⟩; have H9 : Hid (Below W8.heap.size W8 w9) := below_pre hb9; obtain ⟨x0, x1, x2, x3, x4, x5, x6, x7, x8, x9, x10⟩ := cfgCells (F8.out.2.2.1.below H9.out F8.out.2.2.1.lt); obtain ⟨y0, y1, y2, y3, y4, y5, y6, y7, y8, y9, y10⟩ := cfgCells (F8.out.1.below H9.out F8.out.1.lt); obtain ⟨te, ye, e1⟩ := he9.ifaceOf six_ne; subst e1; clear hb9 he9)) | (go_at_call 23; ((with_reducible refine (C1'.out W8.drew _ F8.out.2.1.drew).mono ?_); rintro r w9 ⟨e9, rfl, he9, hb9⟩; have H9 : Hid (Below W8.heap.size W8 w9) := below_pre hb9; obtain ⟨x0, x1, x2, x3, x4, x5, x6, x7, x8, x9, x10⟩ := cfgCells (F8.out.2.2.1.below H9.out F8.out.2.2.1.lt); obtain ⟨y0, y1, y2, y3, y4, y5, y6, y7, y8, y9, y10⟩ := cfgCells (F8.out.1.below H9.out F8.out.1.lt); obtain ⟨te, ye, e1⟩ := he9.ifaceOf six_ne; subst e1; clear hb9 he9)) | (go_at_call 23; ((with_reducible refine (CM'.out w9 (F8.out.2.2.2.1.below H9.out)).mono ?_); rintro r wa ⟨e9, rfl, he9, hb9⟩; have Ha : Hid (Below W8.heap.size W8 wa) := below_comp H9.out hb9; obtain ⟨te2, ye2, e1⟩ := he9.ifaceOf six_ne; subst e1; clear hb9 he9)) | (go_at_call 23; ((with_reducible refine (C1'.out w9 _ (F8.out.2.1.below H9.out)).mono ?_); rintro r wa ⟨e9, rfl, he9, hb9⟩; have Ha : Hid (Below W8.heap.size W8 wa) := below_comp H9.out hb9; obtain ⟨te2, ye2, e1⟩ := he9.ifaceOf six_ne; subst e1; clear hb9 he9)) | fail) | fail
      all_goals
        go_wp2
        go_ret
        exact ⟨rfl, F8.out.2.2.2.2.2.trans (Ha.out.mono F8.out.2.2.2.2.2.size)⟩

theorem configLines_any (c : Cf) (l : Ln) (A : Option Addr) (cap : Nat) (w : World) (hg : ErrTypeAt w) (hs : Sees w A (linesVs c.lines)) :
    Calls Tryd.prog 9 #[cfV A c.lines.length cap c.times, .agg (lnA l)] w fun r w' => r = .returned (.bool true) ∧ Below w.heap.size w w' := by
  by_cases h : 20 < (c.lines.length : Int)
  · exact lines_skip _ _ _ _ _ w hg (decide_eq_true h)
  · cases hok : Cfg.ok c with
    | false => exact lines_bad c A cap l w hg hs (decide_eq_false h) hok
    | true => exact lines_main c A cap l w hg hs hok
end Go.Proofs.YtlijncmjcecppaaDoor
