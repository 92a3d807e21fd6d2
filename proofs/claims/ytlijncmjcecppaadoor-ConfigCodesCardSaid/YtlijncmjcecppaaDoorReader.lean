/- Package octet by contracts: a reader of enough bytes. -/
import Derived.Test.YtlijncmjcecppaaDoorOctet
import Derived.Test.YtlijncmjcecppaaDoorFault
namespace Go.Proofs.YtlijncmjcecppaaDoor
open Go.RowKit

/-- A reader in block g, ahead of these bytes. -/
def Rd (w : World) (g : Nat) (l : List UInt8) : Prop := ∃ A cap e, Box w g 115 #[.slice A l.length cap, e] ∧ Sees w A (byteVs l) ∧ l.length ≤ cap ∧ (A = none → cap = 0) ∧ ∀ a, A = some a → ∃ cs, Box w a.block 5 cs
theorem Rd.lt {w : World} {g : Nat} {l : List UInt8} (h : Rd w g l) : g < w.heap.size := by
  obtain ⟨_, _, _, h, _⟩ := h
  exact h.lt
theorem Rd.box {w : World} {g : Nat} {l : List UInt8} (h : Rd w g l) : ∃ cs, Box w g 115 cs := by
  obtain ⟨_, _, _, h, _⟩ := h
  exact ⟨_, h⟩
theorem Rd.kept {S : Nat → Prop} {w w' : World} {g : Nat} {l : List UInt8} (h : Rd w g l) (hk : Keep S w w') (hg : ¬ S g) (hA : ∀ k cs, Box w k 5 cs → ¬ S k) : Rd w' g l := by
  obtain ⟨A, cap, e, h, k, r, r2, r3⟩ := h
  refine ⟨A, cap, e, h.kept hk hg, ?_, r, r2, ?_⟩
  · refine k.kept hk fun a ha => ?_
    obtain ⟨cs, hc⟩ := r3 a ha
    exact hA _ _ hc
  · intro a ha
    obtain ⟨cs, hc⟩ := r3 a ha
    exact ⟨cs, hc.kept hk (hA _ _ hc)⟩
theorem Rd.below {w w' : World} {g : Nat} {l : List UInt8} (h : Rd w g l) (hb : Below w.heap.size w w') : Rd w' g l := h.kept (S := fun _ => False) (Keep.ofBelow hb) (fun h => h) (fun _ _ _ h => h)
theorem Rd.set {w : World} {g : Nat} {l : List UInt8} (h : Rd w g l) {k : Nat} {t : TypeId} {cs : Array Value} (hb : Box w k t cs) (h1 : t ≠ 115) (h2 : t ≠ 5) (i : Nat) (u : Value) : Rd (w.setCell ⟨k, i, none⟩ u) g l := by
  obtain ⟨cs', hc⟩ := h.box
  exact h.kept (Keep.set w k i u) (Box.ne hc hb (Ne.symm h1)) (fun j cs hj => Box.ne hj hb (Ne.symm h2))
theorem Rd.grown {w w' : World} {g : Nat} {l : List UInt8} (h : Rd w g l) {row : Option Nat} (hg : w.grownBy w' row) (hr : ∀ k, row = some k → ∃ t cs, Box w k t cs ∧ t ≠ 115 ∧ t ≠ 5) : Rd w' g l := by
  obtain ⟨cs', hc⟩ := h.box
  refine h.kept (S := fun j => row = some j) (grown_keep hg) ?_ ?_
  · intro e
    obtain ⟨t, cs, hb, h1, _⟩ := hr _ e
    exact Box.ne hc hb (Ne.symm h1) rfl
  · intro k cs hk e
    obtain ⟨t, cs, hb, _, h2⟩ := hr _ e
    exact Box.ne hk hb (Ne.symm h2) rfl

set_option maxHeartbeats 1000000 in
theorem over_any (v : Value) (l : List UInt8) (w : World) (hl : Byts w v l) (hlen : l.length ≤ 10000000000000) :
    Calls Tryd.prog 44 #[v] w fun r w' => ∃ g, r = .returned (.pointer (some ⟨g, 0, none⟩)) ∧ w.heap.size ≤ g ∧ Rd w' g l ∧ Below w.heap.size w w' := by
  have HC := hid (clone_byts hl (by omega))
  clear hl
  go_enter Tryd.func44, Tryd.ntmps44
  go_wp2_with fail
  refine HC.out.mono ?_
  rintro r w1 ⟨v1, rfl, ho1, _, hb1⟩
  have H1 := hid (And.intro ho1 hb1)
  obtain ⟨A, cap, hv, hs, hc, hn⟩ := Byts.own ho1
  subst hv
  have H2 := hid (And.intro hs (And.intro hc hn))
  clear ho1 hb1 hs hc hn
  go_wp2
  go_ret
  refine ⟨_, rfl, H1.out.2.size, ⟨A, cap, .nilIface, Box.new _ _ _, H2.out.1.alloc _, H2.out.2.1, H2.out.2.2, ?_⟩, H1.out.2.alloc H1.out.2.size _⟩
  intro a e
  rcases H1.out.1.2 with ⟨h, _⟩ | ⟨g', cap', cur, h, _, hh, _⟩
  · injection h with h _ _; rw [h] at e; cases e
  · injection h with h _ _
    rw [h] at e
    injection e with e
    subst e
    exact ⟨cur, Box.alloc (g := g') hh _⟩

set_option maxHeartbeats 1000000 in
theorem u8_ok (g : Nat) (c : UInt8) (tl : List UInt8) (w : World) (h : Rd w g (c :: tl)) (hlen : tl.length ≤ 10000000000000) :
    Calls Tryd.prog 71 #[.pointer (some ⟨g, 0, none⟩)] w fun r w' => r = .returned (.int .u8 (c.toNat : Nat)) ∧ Rd w' g tl ∧ Keep (fun k => k = g) w w' := by
  obtain ⟨A, cap, e, hbx, hs, hc, hn, hne⟩ := h
  obtain ⟨b, off, rfl, hbl, hcell⟩ := hs.form (by simp [byteVs])
  have c1 : w.cell? ⟨b, off + 0, none⟩ = some (.int .u8 (c.toNat : Nat)) := hcell 0 _ rfl
  rw [Nat.add_zero] at c1
  have c0 := (hbx.cell 0).trans (show _ = some (.slice (some ⟨b, off, none⟩) (c :: tl).length cap) from rfl)
  have f0 := hbx.frozen 0
  have hdrop := hs.drop 1
  rw [show (byteVs (c :: tl)).drop 1 = byteVs tl from rfl] at hdrop
  rw [List.length_cons] at c0 hc
  have hnz : ((tl.length + 1 : Nat) : Int) ≠ 0 := by omega
  have hnb : (((tl.length + 1 : Nat) : Int) == 0) = false := beq_eq_false_iff_ne.2 hnz
  obtain ⟨bs, hbs⟩ := hne _ rfl
  have hg : g ≠ b := Box.ne hbx hbs (by decide)
  have hb8 := Crc.byte_lt c
  generalize c.toNat = x at c1 hb8 ⊢
  have HB := hid (And.intro hbx (And.intro hdrop (And.intro hg hbs)))
  obtain ⟨n, hnn⟩ : ∃ n, n = tl.length := ⟨_, rfl⟩
  rw [← hnn] at c0 hc hnz hnb hlen
  have HN := hid hnn
  clear hs hbx hdrop hcell hn hne hnn hg hbl hbs
  go_enter Tryd.func71, Tryd.ntmps71
  go_wp2_with fail
  · have hcap : cap = 1 := by assumption
    subst hcap
    have hn0 : n = 0 := by omega
    have htl : tl = [] := List.length_eq_zero_iff.1 (by rw [← HN.out]; exact hn0)
    subst htl
    subst hn0
    have hk : Keep (fun k => k = g) w (w.setCell ⟨g, 0, none⟩ (.slice (some ⟨b, off, none⟩) 0 0)) := (Keep.refl (fun k => k = g) w).setCell (p := ⟨g, 0, none⟩) (.inl rfl) _
    go_ret
    refine ⟨rfl, ⟨some ⟨b, off, none⟩, 0, e, HB.out.1.store 0 _, Sees.nil _ _, by simp, fun _ => rfl, fun a h => ?_⟩, hk⟩
    injection h with h
    subst h
    exact ⟨bs, HB.out.2.2.2.kept hk (fun hx => HB.out.2.2.1 hx.symm)⟩
  · have hcap : ¬ cap = 1 := by assumption
    obtain rfl := HN.out
    have hk : Keep (fun k => k = g) w (w.setCell ⟨g, 0, none⟩ (.slice (some ⟨b, off + 1, none⟩) tl.length (cap - 1))) := (Keep.refl (fun k => k = g) w).setCell (p := ⟨g, 0, none⟩) (.inl rfl) _
    have hs := HB.out.2.1
    rw [Option.map_some, add_lit] at hs
    go_ret
    refine ⟨rfl, ⟨some ⟨b, off + 1, none⟩, cap - 1, e, HB.out.1.store 0 _, ?_, by omega, fun h => (by cases h), fun a h => ?_⟩, hk⟩
    · refine hs.kept hk (fun a h => ?_)
      injection h with h
      subst h
      exact fun hx => HB.out.2.2.1 hx.symm
    · injection h with h
      subst h
      exact ⟨bs, HB.out.2.2.2.kept hk (fun hx => HB.out.2.2.1 hx.symm)⟩

theorem ofInt32 (a : Nat) (ha : a < 4294967296) : (BitVec.ofInt 32 (a : Int)).toNat = a := by
  rw [BitVec.ofInt_natCast, BitVec.toNat_ofNat]; exact Nat.mod_eq_of_lt ha
theorem u32_or (a b : Int) (h0 : 0 ≤ a) (h1 : a < 4294967296) (hm : a % 256 = 0) (hb0 : 0 ≤ b) (hb : b < 256) : bits .or .u32 a b = a + b := by
  obtain ⟨a, rfl⟩ := Int.eq_ofNat_of_zero_le h0
  obtain ⟨b, rfl⟩ := Int.eq_ofNat_of_zero_le hb0
  have ha : a < 4294967296 := by omega
  have hb' : b < 2 ^ 8 := by omega
  obtain ⟨k, rfl⟩ : ∃ k, a = 2 ^ 8 * k := ⟨a / 256, by omega⟩
  show IntKind.u32.wrap ((BitVec.ofInt 32 ((2 ^ 8 * k : Nat) : Int) ||| BitVec.ofInt 32 (b : Int)).toNat : Int) = _
  rw [BitVec.toNat_or, ofInt32 _ ha, ofInt32 b (by omega), ← Nat.two_pow_add_eq_or_of_lt hb', IntKind.wrap_u32]
  omega

set_option maxHeartbeats 1000000 in
theorem many2_ok (g : Nat) (c0 c1 : UInt8) (tl : List UInt8) (w : World) (h : Rd w g (c0 :: c1 :: tl)) (hlen : tl.length ≤ 1000000000000) :
    Calls Tryd.prog 62 #[.pointer (some ⟨g, 0, none⟩), .int .i64 2] w fun r w' => r = .returned (.int .u32 (c0.toNat * 256 + c1.toNat)) ∧ Rd w' g tl ∧ Keep (fun k => k = g) w w' := by
  have HR := hid h
  obtain ⟨A, cap, e, hbx, _⟩ := h
  have q0 := (hbx.cell 0).trans (show _ = some (.slice A (tl.length + 2) cap) from rfl)
  have h0 := Crc.byte_lt c0
  have h1 := Crc.byte_lt c1
  have C0 := hid (fun W (k : Rd W g (c0 :: c1 :: tl)) => u8_ok g c0 (c1 :: tl) W k (by simp; omega))
  have C1 := hid (fun W (k : Rd W g (c1 :: tl)) => u8_ok g c1 tl W k (by omega))
  generalize c0.toNat = x0 at h0 C0 ⊢
  generalize c1.toNat = x1 at h1 C1 ⊢
  have hn : ¬ ((tl.length + 2 : Nat) : Int) < 2 := by omega
  generalize tl.length = n at q0 hn hlen
  clear hbx
  go_enter Tryd.func62, Tryd.ntmps62
  go_wp2_with fail
  refine wp_loop_rounds 3 ?_
  rw [rounds_succ]
  go_wp2_with fail
  refine (C0.out _ HR.out).mono ?_
  rintro r w1 ⟨rfl, r1, k1⟩
  have H1 := hid (And.intro r1 k1)
  clear r1 k1 HR q0
  go_wp2_with fail
  rw [u32_or 0 x0 (by omega) (by omega) (by omega) (by omega) (by omega), Int.zero_add]
  rw [rounds_succ]
  go_wp2_with fail
  refine (C1.out _ H1.out.1).mono ?_
  rintro r w2 ⟨rfl, r2, k2⟩
  have H2 := hid (And.intro r2 (H1.out.2.trans k2 (fun _ _ h => h)))
  clear r2 k2 H1
  go_wp2_with fail
  rw [u32_or (x0 * 256) x1 (by omega) (by omega) (by omega) (by omega) (by omega)]
  rw [rounds_succ]
  go_wp2_with fail
  go_ret
  exact ⟨rfl, H2.out⟩

set_option maxHeartbeats 1000000 in
theorem many4_ok (g : Nat) (c0 c1 c2 c3 : UInt8) (tl : List UInt8) (w : World) (h : Rd w g (c0 :: c1 :: c2 :: c3 :: tl)) (hlen : tl.length ≤ 1000000000000) :
    Calls Tryd.prog 62 #[.pointer (some ⟨g, 0, none⟩), .int .i64 4] w fun r w' => r = .returned (.int .u32 (((c0.toNat * 256 + c1.toNat) * 256 + c2.toNat) * 256 + c3.toNat)) ∧ Rd w' g tl ∧ Keep (fun k => k = g) w w' := by
  have HR := hid h
  obtain ⟨A, cap, e, hbx, _⟩ := h
  have q0 := (hbx.cell 0).trans (show _ = some (.slice A (tl.length + 4) cap) from rfl)
  have h0 := Crc.byte_lt c0
  have h1 := Crc.byte_lt c1
  have h2 := Crc.byte_lt c2
  have h3 := Crc.byte_lt c3
  have C0 := hid (fun W (k : Rd W g (c0 :: c1 :: c2 :: c3 :: tl)) => u8_ok g c0 (c1 :: c2 :: c3 :: tl) W k (by simp; omega))
  have C1 := hid (fun W (k : Rd W g (c1 :: c2 :: c3 :: tl)) => u8_ok g c1 (c2 :: c3 :: tl) W k (by simp; omega))
  have C2 := hid (fun W (k : Rd W g (c2 :: c3 :: tl)) => u8_ok g c2 (c3 :: tl) W k (by simp; omega))
  have C3 := hid (fun W (k : Rd W g (c3 :: tl)) => u8_ok g c3 tl W k (by omega))
  generalize c0.toNat = x0 at h0 C0 ⊢
  generalize c1.toNat = x1 at h1 C1 ⊢
  generalize c2.toNat = x2 at h2 C2 ⊢
  generalize c3.toNat = x3 at h3 C3 ⊢
  have hn : ¬ ((tl.length + 4 : Nat) : Int) < 4 := by omega
  generalize tl.length = n at q0 hn hlen
  clear hbx
  go_enter Tryd.func62, Tryd.ntmps62
  go_wp2_with fail
  refine wp_loop_rounds 5 ?_
  rw [rounds_succ]
  go_wp2_with fail
  refine (C0.out _ HR.out).mono ?_
  rintro r w1 ⟨rfl, r1, k1⟩
  have H1 := hid (And.intro r1 k1)
  clear r1 k1 HR q0
  go_wp2_with fail
  rw [u32_or 0 x0 (by omega) (by omega) (by omega) (by omega) (by omega), Int.zero_add]
  rw [rounds_succ]
  go_wp2_with fail
  refine (C1.out _ H1.out.1).mono ?_
  rintro r w2 ⟨rfl, r2, k2⟩
  have H2 := hid (And.intro r2 (H1.out.2.trans k2 (fun _ _ h => h)))
  clear r2 k2 H1
  go_wp2_with fail
  rw [u32_or (x0 * 256) x1 (by omega) (by omega) (by omega) (by omega) (by omega)]
  rw [rounds_succ]
  go_wp2_with fail
  refine (C2.out _ H2.out.1).mono ?_
  rintro r w3 ⟨rfl, r2, k2⟩
  have H3 := hid (And.intro r2 (H2.out.2.trans k2 (fun _ _ h => h)))
  clear r2 k2 H2
  go_wp2_with fail
  rw [u32_or ((x0 * 256 + x1) * 256) x2 (by omega) (by omega) (by omega) (by omega) (by omega)]
  rw [rounds_succ]
  go_wp2_with fail
  refine (C3.out _ H3.out.1).mono ?_
  rintro r w4 ⟨rfl, r2, k2⟩
  have H4 := hid (And.intro r2 (H3.out.2.trans k2 (fun _ _ h => h)))
  clear r2 k2 H3
  go_wp2_with fail
  rw [u32_or (((x0 * 256 + x1) * 256 + x2) * 256) x3 (by omega) (by omega) (by omega) (by omega) (by omega)]
  rw [rounds_succ]
  go_wp2_with fail
  go_ret
  exact ⟨rfl, H4.out⟩

theorem u16_ok (g : Nat) (c0 c1 : UInt8) (tl : List UInt8) (w : World) (h : Rd w g (c0 :: c1 :: tl)) (hlen : tl.length ≤ 1000000000000) :
    Calls Tryd.prog 45 #[.pointer (some ⟨g, 0, none⟩)] w fun r w' => r = .returned (.int .u16 (c0.toNat * 256 + c1.toNat)) ∧ Rd w' g tl ∧ Keep (fun k => k = g) w w' := by
  have C := hid (many2_ok g c0 c1 tl w h hlen)
  have h0 := Crc.byte_lt c0
  have h1 := Crc.byte_lt c1
  generalize c0.toNat = x0 at h0 C ⊢
  generalize c1.toNat = x1 at h1 C ⊢
  clear h
  go_enter Tryd.func45, Tryd.ntmps45
  go_wp2_with fail
  refine C.out.mono ?_
  rintro r w1 ⟨rfl, h1⟩
  go_wp2
  go_ret
  exact ⟨rfl, h1⟩
theorem u32_ok (g : Nat) (c0 c1 c2 c3 : UInt8) (tl : List UInt8) (w : World) (h : Rd w g (c0 :: c1 :: c2 :: c3 :: tl)) (hlen : tl.length ≤ 1000000000000) :
    Calls Tryd.prog 46 #[.pointer (some ⟨g, 0, none⟩)] w fun r w' => r = .returned (.int .u32 (((c0.toNat * 256 + c1.toNat) * 256 + c2.toNat) * 256 + c3.toNat)) ∧ Rd w' g tl ∧ Keep (fun k => k = g) w w' := by
  have C := hid (many4_ok g c0 c1 c2 c3 tl w h hlen)
  clear h
  go_enter Tryd.func46, Tryd.ntmps46
  go_wp2_with fail
  refine C.out.mono ?_
  rintro r w1 ⟨rfl, h1⟩
  go_wp2
  go_ret
  exact ⟨rfl, h1⟩
end Go.Proofs.YtlijncmjcecppaaDoor
