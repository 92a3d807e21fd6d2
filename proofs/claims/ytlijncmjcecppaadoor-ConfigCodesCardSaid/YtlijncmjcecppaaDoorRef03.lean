/- The document's own numbers of bytes (crossbuckref03) by contracts. -/
import Derived.Test.YtlijncmjcecppaaDoorRef02
import Derived.Test.YtlijncmjcecppaaDoorDecSteps
namespace Go.Proofs.YtlijncmjcecppaaDoor
open Go.RowKit

set_option maxRecDepth 100000 in
set_option maxHeartbeats 2000000 in
theorem refPut2_any (v : Value) (l : List UInt8) (n : Nat) (w : World) (hl : Byts w v l) (hlen : l.length ≤ 10000000000000) :
    Calls Tryd.prog 40 #[v, .int .u32 (n : Nat), .int .i64 2] w fun r w' => ∃ v', r = .returned v' ∧ Out w w' 5 1 v' (l.length + 2) (byteVs (l ++ Cfg.be2 n)) := by
  have HB := hid (show byteVs (l ++ Cfg.be2 n) = byteVs l ++ [.int .u8 ((n : Int) / 256 % 256), .int .u8 ((n : Int) % 256)] by
    rw [byteVs_append, u8_of_nat n, show ((n : Int) / 256) = ((n / 256 : Nat) : Int) from rfl, u8_of_nat]; rfl)
  have HL := hid hl
  obtain ⟨A, cap, rfl, _⟩ := hl
  generalize l.length = m at hlen HL ⊢
  go_enter Tryd.func40, Tryd.ntmps40
  have HF := hid (Out.fresh (Below.refl w.heap.size w) #[] 5 1 0 rfl (by omega))
  have HLa := hid (HL.out.alloc (.cells #[] 5))
  go_wp2_with (at_builtin; refine wp_appByts rfl (.tmp 9) (.tmp 10) rfl HF A m cap l HLa rfl rfl (by simp) (by omega) ?_)
  intro A1 cap1 w1 H1 _
  clear HF HLa HL
  go_wp2_with fail
  refine wp_loop_rounds 3 ?_
  rw [rounds_succ]
  go_wp2_with (at_builtin; refine wp_app1 eiByte rfl (.tmp 18) (.tmp 25) rfl H1 _ rfl rfl rfl rfl rfl (by omega) (by omega) ?_)
  intro A3 cap3 w3 H3 _
  clear H1
  go_wp2_with fail
  rw [rounds_succ]
  go_wp2_with (at_builtin; refine wp_app1 eiByte rfl (.tmp 18) (.tmp 25) rfl H3 _ rfl rfl rfl rfl rfl (by omega) (by omega) ?_)
  intro A4 cap4 w4 H4 _
  clear H3
  go_wp2_with fail
  rw [rounds_succ]
  go_wp2_with fail
  go_ret
  refine ⟨_, rfl, ?_⟩
  rw [HB.out]
  have := H4.out
  simpa using this

set_option maxRecDepth 100000 in
set_option maxHeartbeats 2000000 in
theorem refPut4_any (v : Value) (l : List UInt8) (n : Nat) (w : World) (hl : Byts w v l) (hlen : l.length ≤ 10000000000000) (hn : n < 4294967296) :
    Calls Tryd.prog 40 #[v, .int .u32 (n : Nat), .int .i64 4] w fun r w' => ∃ v', r = .returned v' ∧ Out w w' 5 1 v' (l.length + 4) (byteVs (l ++ Cfg.be4 n)) := by
  have HB := hid (show byteVs (l ++ Cfg.be4 n) = byteVs l ++ [.int .u8 ((n : Int) / 16777216), .int .u8 ((n : Int) / 65536 % 256), .int .u8 ((n : Int) / 256 % 256), .int .u8 ((n : Int) % 256)] by
    rw [show ((n : Int) / 16777216) = (n : Int) / 16777216 % 256 by omega, byteVs_append, u8_of_nat n, show ((n : Int) / 256) = ((n / 256 : Nat) : Int) from rfl, show ((n : Int) / 65536) = ((n / 65536 : Nat) : Int) from rfl, show ((n : Int) / 16777216) = ((n / 16777216 : Nat) : Int) from rfl, u8_of_nat, u8_of_nat, u8_of_nat]; rfl)
  have HL := hid hl
  obtain ⟨A, cap, rfl, _⟩ := hl
  generalize l.length = m at hlen HL ⊢
  go_enter Tryd.func40, Tryd.ntmps40
  have HF := hid (Out.fresh (Below.refl w.heap.size w) #[] 5 1 0 rfl (by omega))
  have HLa := hid (HL.out.alloc (.cells #[] 5))
  go_wp2_with (at_builtin; refine wp_appByts rfl (.tmp 9) (.tmp 10) rfl HF A m cap l HLa rfl rfl (by simp) (by omega) ?_)
  intro A1 cap1 w1 H1 _
  clear HF HLa HL
  go_wp2_with fail
  refine wp_loop_rounds 5 ?_
  rw [rounds_succ]
  go_wp2_with (at_builtin; refine wp_app1 eiByte rfl (.tmp 18) (.tmp 25) rfl H1 _ rfl rfl rfl rfl rfl (by omega) (by omega) ?_)
  intro A3 cap3 w3 H3 _
  clear H1
  go_wp2_with fail
  rw [rounds_succ]
  go_wp2_with (at_builtin; refine wp_app1 eiByte rfl (.tmp 18) (.tmp 25) rfl H3 _ rfl rfl rfl rfl rfl (by omega) (by omega) ?_)
  intro A4 cap4 w4 H4 _
  clear H3
  go_wp2_with fail
  rw [rounds_succ]
  go_wp2_with (at_builtin; refine wp_app1 eiByte rfl (.tmp 18) (.tmp 25) rfl H4 _ rfl rfl rfl rfl rfl (by omega) (by omega) ?_)
  intro A5 cap5 w5 H5 _
  clear H4
  go_wp2_with fail
  rw [rounds_succ]
  go_wp2_with (at_builtin; refine wp_app1 eiByte rfl (.tmp 18) (.tmp 25) rfl H5 _ rfl rfl rfl rfl rfl (by omega) (by omega) ?_)
  intro A6 cap6 w6 H6 _
  clear H5
  go_wp2_with fail
  rw [rounds_succ]
  go_wp2_with fail
  go_ret
  refine ⟨_, rfl, ?_⟩
  rw [HB.out]
  have := H6.out
  simpa using this

/-- The document's reader in block g, ahead of these bytes. -/
def RdR (w : World) (g : Nat) (l : List UInt8) : Prop := ∃ A cap, Box w g 91 #[.slice A l.length cap, .bool false] ∧ Sees w A (byteVs l) ∧ l.length ≤ cap ∧ (A = none → cap = 0) ∧ ∀ a, A = some a → ∃ cs, Box w a.block 5 cs
theorem RdR.box {w : World} {g : Nat} {l : List UInt8} (h : RdR w g l) : ∃ cs, Box w g 91 cs := by
  obtain ⟨_, _, h, _⟩ := h
  exact ⟨_, h⟩
theorem RdR.kept {S : Nat → Prop} {w w' : World} {g : Nat} {l : List UInt8} (h : RdR w g l) (hk : Keep S w w') (hg : ¬ S g) (hA : ∀ k cs, Box w k 5 cs → ¬ S k) : RdR w' g l := by
  obtain ⟨A, cap, h, k, r, r2, r3⟩ := h
  refine ⟨A, cap, h.kept hk hg, ?_, r, r2, ?_⟩
  · refine k.kept hk fun a ha => ?_
    obtain ⟨cs, hc⟩ := r3 a ha
    exact hA _ _ hc
  · intro a ha
    obtain ⟨cs, hc⟩ := r3 a ha
    exact ⟨cs, hc.kept hk (hA _ _ hc)⟩
theorem RdR.below {w w' : World} {g : Nat} {l : List UInt8} (h : RdR w g l) (hb : Below w.heap.size w w') : RdR w' g l := h.kept (S := fun _ => False) (Keep.ofBelow hb) (fun h => h) (fun _ _ _ h => h)
theorem RdR.set {w : World} {g : Nat} {l : List UInt8} (h : RdR w g l) {k : Nat} {t : TypeId} {cs : Array Value} (hb : Box w k t cs) (h1 : t ≠ 91) (h2 : t ≠ 5) (i : Nat) (u : Value) : RdR (w.setCell ⟨k, i, none⟩ u) g l := by
  obtain ⟨cs', hc⟩ := h.box
  exact h.kept (Keep.set w k i u) (Box.ne hc hb (Ne.symm h1)) (fun j cs hj => Box.ne hj hb (Ne.symm h2))
theorem RdR.grown {w w' : World} {g : Nat} {l : List UInt8} (h : RdR w g l) {row : Option Nat} (hg : w.grownBy w' row) (hr : ∀ k, row = some k → ∃ t cs, Box w k t cs ∧ t ≠ 91 ∧ t ≠ 5) : RdR w' g l := by
  obtain ⟨cs', hc⟩ := h.box
  refine h.kept (S := fun j => row = some j) (grown_keep hg) ?_ ?_
  · intro e
    obtain ⟨t, cs, hb, h1, _⟩ := hr _ e
    exact Box.ne hc hb (Ne.symm h1) rfl
  · intro k cs hk e
    obtain ⟨t, cs, hb, _, h2⟩ := hr _ e
    exact Box.ne hk hb (Ne.symm h2) rfl

set_option maxRecDepth 100000 in
set_option maxHeartbeats 2000000 in
theorem num2_ok (g : Nat) (c0 c1 : UInt8) (tl : List UInt8) (w : World) (h : RdR w g (c0 :: c1 :: tl)) (hlen : tl.length ≤ 1000000000000) :
    Calls Tryd.prog 48 #[.pointer (some ⟨g, 0, none⟩), .int .i64 2] w fun r w' => r = .returned (.int .u32 (c0.toNat * 256 + c1.toNat)) ∧ RdR w' g tl ∧ Keep (fun k => k = g) w w' := by
  obtain ⟨A, cap, hbx, hs, hc, hn, hne⟩ := h
  obtain ⟨b, off, rfl, hbl, hcell⟩ := hs.form (by simp [byteVs])
  have d0 : w.cell? ⟨b, off + 0, none⟩ = some (.int .u8 (c0.toNat : Nat)) := hcell 0 _ rfl
  have d1 : w.cell? ⟨b, off + 1, none⟩ = some (.int .u8 (c1.toNat : Nat)) := hcell 1 _ rfl
  rw [Nat.add_zero] at d0
  have q0 := (hbx.cell 0).trans (show _ = some (.slice (some ⟨b, off, none⟩) (tl.length + 2) cap) from rfl)
  have q1 := (hbx.cell 1).trans (show _ = some (.bool false) from rfl)
  have f0 := hbx.frozen 0
  have hdrop := hs.drop 2
  rw [show (byteVs (c0 :: c1 :: tl)).drop 2 = byteVs tl from rfl, Option.map_some, add_lit] at hdrop
  have hc' : tl.length + 2 ≤ cap := hc
  have h2 : decide (((tl.length : Int) + 2) < 2) = false := by simp; omega
  obtain ⟨bs, hbs⟩ := hne _ rfl
  have hg : g ≠ b := Box.ne hbx hbs (by decide)
  have h0 := Crc.byte_lt c0
  have h1 := Crc.byte_lt c1
  generalize c0.toNat = x0 at d0 h0 ⊢
  generalize c1.toNat = x1 at d1 h1 ⊢
  have HB := hid (And.intro hbx (And.intro hdrop (And.intro hg hbs)))
  obtain ⟨n, hnn⟩ : ∃ n, n = tl.length := ⟨_, rfl⟩
  rw [← hnn] at q0 hc' hlen h2
  have HN := hid hnn
  clear hs hbx hdrop hcell hn hne hnn hg hbl hbs hc
  go_enter Tryd.func48, Tryd.ntmps48
  go_wp2_with fail
  refine wp_loop_rounds 3 ?_
  rw [rounds_succ]
  go_wp2_with fail
  rw [rounds_succ]
  go_wp2_with fail
  rw [rounds_succ]
  go_wp2_with fail
  · have hcap : cap = 2 := by assumption
    subst hcap
    have hn0 : n = 0 := by omega
    have htl : tl = [] := List.length_eq_zero_iff.1 (by rw [← HN.out]; exact hn0)
    subst htl
    subst hn0
    have hk := Keep.set w g 0 (.slice (some ⟨b, off, none⟩) 0 0)
    go_ret
    refine ⟨ret_int (by omega), ⟨some ⟨b, off, none⟩, 0, HB.out.1.store 0 _, Sees.nil _ _, by simp, fun _ => rfl, fun a h => ?_⟩, hk⟩
    injection h with h
    subst h
    exact ⟨bs, HB.out.2.2.2.kept hk (fun hx => HB.out.2.2.1 hx.symm)⟩
  · have hcap : ¬ cap = 2 := by assumption
    obtain rfl := HN.out
    have hk := Keep.set w g 0 (.slice (some ⟨b, off + 2, none⟩) tl.length (cap - 2))
    go_ret
    refine ⟨ret_int (by omega), ⟨some ⟨b, off + 2, none⟩, cap - 2, HB.out.1.store 0 _, ?_, by omega, fun h => (by cases h), fun a h => ?_⟩, hk⟩
    · refine HB.out.2.1.kept hk (fun a h => ?_)
      injection h with h
      subst h
      exact fun hx => HB.out.2.2.1 hx.symm
    · injection h with h
      subst h
      exact ⟨bs, HB.out.2.2.2.kept hk (fun hx => HB.out.2.2.1 hx.symm)⟩

set_option maxRecDepth 100000 in
set_option maxHeartbeats 2000000 in
theorem num4_ok (g : Nat) (c0 c1 c2 c3 : UInt8) (tl : List UInt8) (w : World) (h : RdR w g (c0 :: c1 :: c2 :: c3 :: tl)) (hlen : tl.length ≤ 1000000000000) :
    Calls Tryd.prog 48 #[.pointer (some ⟨g, 0, none⟩), .int .i64 4] w fun r w' => r = .returned (.int .u32 (((c0.toNat * 256 + c1.toNat) * 256 + c2.toNat) * 256 + c3.toNat)) ∧ RdR w' g tl ∧ Keep (fun k => k = g) w w' := by
  obtain ⟨A, cap, hbx, hs, hc, hn, hne⟩ := h
  obtain ⟨b, off, rfl, hbl, hcell⟩ := hs.form (by simp [byteVs])
  have d0 : w.cell? ⟨b, off + 0, none⟩ = some (.int .u8 (c0.toNat : Nat)) := hcell 0 _ rfl
  have d1 : w.cell? ⟨b, off + 1, none⟩ = some (.int .u8 (c1.toNat : Nat)) := hcell 1 _ rfl
  have d2 : w.cell? ⟨b, off + 2, none⟩ = some (.int .u8 (c2.toNat : Nat)) := hcell 2 _ rfl
  have d3 : w.cell? ⟨b, off + 3, none⟩ = some (.int .u8 (c3.toNat : Nat)) := hcell 3 _ rfl
  rw [Nat.add_zero] at d0
  have q0 := (hbx.cell 0).trans (show _ = some (.slice (some ⟨b, off, none⟩) (tl.length + 4) cap) from rfl)
  have q1 := (hbx.cell 1).trans (show _ = some (.bool false) from rfl)
  have f0 := hbx.frozen 0
  have hdrop := hs.drop 4
  rw [show (byteVs (c0 :: c1 :: c2 :: c3 :: tl)).drop 4 = byteVs tl from rfl, Option.map_some, add_lit] at hdrop
  have hc' : tl.length + 4 ≤ cap := hc
  have h2 : decide (((tl.length : Int) + 4) < 4) = false := by simp; omega
  obtain ⟨bs, hbs⟩ := hne _ rfl
  have hg : g ≠ b := Box.ne hbx hbs (by decide)
  have h0 := Crc.byte_lt c0
  have h1 := Crc.byte_lt c1
  have h2' := Crc.byte_lt c2
  have h3' := Crc.byte_lt c3
  generalize c0.toNat = x0 at d0 h0 ⊢
  generalize c1.toNat = x1 at d1 h1 ⊢
  generalize c2.toNat = x2 at d2 h2' ⊢
  generalize c3.toNat = x3 at d3 h3' ⊢
  have HB := hid (And.intro hbx (And.intro hdrop (And.intro hg hbs)))
  obtain ⟨n, hnn⟩ : ∃ n, n = tl.length := ⟨_, rfl⟩
  rw [← hnn] at q0 hc' hlen h2
  have HN := hid hnn
  clear hs hbx hdrop hcell hn hne hnn hg hbl hbs hc
  go_enter Tryd.func48, Tryd.ntmps48
  go_wp2_with fail
  refine wp_loop_rounds 5 ?_
  rw [rounds_succ]
  go_wp2_with fail
  rw [rounds_succ]
  go_wp2_with fail
  rw [rounds_succ]
  go_wp2_with fail
  rw [rounds_succ]
  go_wp2_with fail
  rw [rounds_succ]
  go_wp2_with fail
  · have hcap : cap = 4 := by assumption
    subst hcap
    have hn0 : n = 0 := by omega
    have htl : tl = [] := List.length_eq_zero_iff.1 (by rw [← HN.out]; exact hn0)
    subst htl
    subst hn0
    have hk := Keep.set w g 0 (.slice (some ⟨b, off, none⟩) 0 0)
    go_ret
    refine ⟨ret_int (by omega), ⟨some ⟨b, off, none⟩, 0, HB.out.1.store 0 _, Sees.nil _ _, by simp, fun _ => rfl, fun a h => ?_⟩, hk⟩
    injection h with h
    subst h
    exact ⟨bs, HB.out.2.2.2.kept hk (fun hx => HB.out.2.2.1 hx.symm)⟩
  · have hcap : ¬ cap = 4 := by assumption
    obtain rfl := HN.out
    have hk := Keep.set w g 0 (.slice (some ⟨b, off + 4, none⟩) tl.length (cap - 4))
    go_ret
    refine ⟨ret_int (by omega), ⟨some ⟨b, off + 4, none⟩, cap - 4, HB.out.1.store 0 _, ?_, by omega, fun h => (by cases h), fun a h => ?_⟩, hk⟩
    · refine HB.out.2.1.kept hk (fun a h => ?_)
      injection h with h
      subst h
      exact fun hx => HB.out.2.2.1 hx.symm
    · injection h with h
      subst h
      exact ⟨bs, HB.out.2.2.2.kept hk (fun hx => HB.out.2.2.1 hx.symm)⟩

theorem num2_at (g : Nat) (x : List UInt8) (o : Nat) (w : World) (h : RdR w g (x.drop o)) (ho : o + 2 ≤ x.length) (hlen : x.length ≤ 1000000000000) :
    Calls Tryd.prog 48 #[.pointer (some ⟨g, 0, none⟩), .int .i64 2] w fun r w' => r = .returned (.int .u32 (Cfg.get2 x o)) ∧ RdR w' g (x.drop (o + 2)) ∧ Keep (fun k => k = g) w w' := by
  obtain ⟨a, b, e1, e2⟩ := Cfg.drop2 x o ho
  rw [e1] at h
  rw [e2]
  exact num2_ok g a b _ w h (by simp; omega)
theorem num4_at (g : Nat) (x : List UInt8) (o : Nat) (w : World) (h : RdR w g (x.drop o)) (ho : o + 4 ≤ x.length) (hlen : x.length ≤ 1000000000000) :
    Calls Tryd.prog 48 #[.pointer (some ⟨g, 0, none⟩), .int .i64 4] w fun r w' => r = .returned (.int .u32 (Cfg.get4 x o)) ∧ RdR w' g (x.drop (o + 4)) ∧ Keep (fun k => k = g) w w' := by
  obtain ⟨a, b, c, d, e1, e2⟩ := Cfg.drop4 x o ho
  rw [e1] at h
  rw [e2]
  exact num4_ok g a b c d _ w h (by simp; omega)
end Go.Proofs.YtlijncmjcecppaaDoor
