/- Package octet by contracts: bytes as slices (Byts); numbers as bytes. -/
import Derived.Test.YtlijncmjcecppaaDoorGrow
import Derived.Test.YtlijncmjcecppaaDoorApp
import Derived.Test.YtlijncmjcecppaaDoorCfgPlain
namespace Go.Proofs.YtlijncmjcecppaaDoor
open Go.RowKit

/-- A slice that reads as bytes. -/
def Byts (w : World) (v : Value) (l : List UInt8) : Prop := ∃ A cap, v = .slice A l.length cap ∧ Sees w A (byteVs l) ∧ l.length ≤ cap ∧ (A = none → cap = 0)
section
variable {S : Nat → Prop} {w w' : World} {v : Value} {l : List UInt8}
theorem Byts.nil (w : World) : Byts w (.slice none 0 0) [] := ⟨none, 0, rfl, Sees.nil _ _, by simp, fun _ => rfl⟩
theorem Byts.below (h : Byts w v l) (hb : Below w.heap.size w w') : Byts w' v l := by
  obtain ⟨A, cap, h1, h2, h3, h4⟩ := h
  exact ⟨A, cap, h1, h2.below hb, h3, h4⟩
theorem Byts.alloc (h : Byts w v l) (o : Obj) : Byts (w.alloc o) v l := h.below ((Below.refl _ w).alloc (Nat.le_refl _) o)
theorem Byts.own {base n : Nat} (h : w.ownsRow base 5 1 v n (byteVs l)) : Byts w v l := by
  have hx : l.length = n := by
    have := h.1
    rw [byteVs_length] at this
    omega
  have h' := h
  rcases h.2 with ⟨rfl, h0⟩ | ⟨g, cap, cur, rfl, _, _, hlc, _⟩
  · have : l = [] := List.length_eq_zero_iff.1 (by omega)
    subst this
    exact Byts.nil w
  · rw [← hx] at hlc h' ⊢
    exact ⟨_, cap, rfl, Sees.own h', hlc, fun e => by cases e⟩
theorem Byts.lt (h : Byts w v l) {A : Option Addr} {n cap : Nat} (e : v = .slice A n cap) : n = l.length := by
  obtain ⟨A', c', rfl, _⟩ := h
  injection e with _ e _
  exact e.symm
end
theorem own_byts_nil {w : World} {base n : Nat} {v : Value} {l : List UInt8} (h : w.ownsRow base 5 1 v n (byteVs l)) (hn : 0 < n) : v ≠ .slice none 0 0 := by
  rintro rfl
  rcases h.2 with ⟨_, h0⟩ | ⟨g, cap, cur, e, _⟩
  · have := h.1
    rw [h0] at this
    simp at this
    omega
  · cases e

theorem clone_byts {v : Value} {l : List UInt8} {w : World} (h : Byts w v l) (hlen : l.length ≤ 100000000000000) :
    Calls Tryd.prog 60 #[v] w fun r w' => ∃ v', r = .returned v' ∧ w'.ownsRow w.heap.size 5 1 v' l.length (byteVs l) ∧ (v' = .slice none 0 0 ↔ v = .slice none 0 0) ∧ Below w.heap.size w w' := by
  obtain ⟨A, cap, rfl, hs, hc, hn⟩ := h
  cases A with
  | none =>
    have hc0 := hn rfl
    subst hc0
    have : l = [] := List.length_eq_zero_iff.1 (by omega)
    subst this
    refine (clone_nil w).mono ?_
    rintro r w' ⟨rfl, rfl⟩
    exact ⟨_, rfl, World.ownsRow_nil _ _ _ _, Iff.rfl, Below.refl _ _⟩
  | some a =>
    refine (clone_some a l cap w hs hlen).mono ?_
    rintro r w' ⟨v, rfl, ho, hne, hb⟩
    exact ⟨v, rfl, ho, ⟨fun e => absurd e hne, fun e => by cases e⟩, hb⟩

theorem u8_of_nat (n : Nat) : Value.int .u8 ((n : Int) % 256) = .int .u8 ((UInt8.ofNat n).toNat : Nat) := by
  rw [Crc.toNat_ofNat]; congr 1

set_option maxRecDepth 100000 in
set_option maxHeartbeats 2000000 in
theorem lay2_any (v : Value) (l : List UInt8) (n : Nat) (w : World) (hl : Byts w v l) (hlen : l.length ≤ 10000000000000) :
    Calls Tryd.prog 58 #[v, .int .u32 (n : Nat), .int .i64 2] w fun r w' => ∃ v', r = .returned v' ∧ Out w w' 5 1 v' (l.length + 2) (byteVs (l ++ Cfg.be2 n)) := by
  have HC := hid (clone_byts hl (by omega))
  have HB := hid (show byteVs (l ++ Cfg.be2 n) = byteVs l ++ [.int .u8 ((n : Int) / 256 % 256), .int .u8 ((n : Int) % 256)] by
    rw [byteVs_append, u8_of_nat n, show ((n : Int) / 256) = ((n / 256 : Nat) : Int) from rfl, u8_of_nat]; rfl)
  obtain ⟨m, hm⟩ : ∃ m, m = l.length := ⟨_, rfl⟩
  rw [← hm] at HC hlen ⊢
  clear hl hm
  go_enter Tryd.func58, Tryd.ntmps58
  go_wp2_with fail
  refine HC.out.mono ?_
  rintro r w1 ⟨v1, rfl, ho1, _, hb1⟩
  have H1 := hid (And.intro ho1 hb1)
  clear ho1 hb1
  go_wp2_with fail
  refine (grow_own H1.out.1 H1.out.2.size 2 (by omega)).mono ?_
  rintro r w2 ⟨v2, rfl, ho2, hg2, _⟩
  obtain ⟨A2, cap2, hv, _⟩ := own_form ho2
  subst hv
  have H2 : Hid (Out w w2 5 1 (.slice A2 m cap2) m (byteVs l)) := ⟨ho2, H1.out.2.grown hg2 H1.out.2.size (by simp)⟩
  clear ho2 hg2 H1
  go_wp2_with fail
  refine wp_loop_rounds 3 ?_
  rw [rounds_succ]
  go_wp2_with (at_builtin; refine wp_app1 eiByte rfl (.tmp 17) (.tmp 26) rfl H2 _ rfl rfl rfl rfl rfl (by omega) (by omega) ?_)
  intro A3 cap3 w3 H3 _
  clear H2
  go_wp2_with fail
  rw [rounds_succ]
  go_wp2_with (at_builtin; refine wp_app1 eiByte rfl (.tmp 17) (.tmp 26) rfl H3 _ rfl rfl rfl rfl rfl (by omega) (by omega) ?_)
  intro A4 cap4 w4 H4 _
  clear H3
  go_wp2_with fail
  rw [rounds_succ]
  go_wp2_with fail
  go_ret
  exact ⟨_, rfl, by rw [HB.out]; exact H4.out⟩

set_option maxRecDepth 100000 in
set_option maxHeartbeats 2000000 in
theorem lay4_any (v : Value) (l : List UInt8) (n : Nat) (w : World) (hl : Byts w v l) (hlen : l.length ≤ 10000000000000) (hn : n < 4294967296) :
    Calls Tryd.prog 58 #[v, .int .u32 (n : Nat), .int .i64 4] w fun r w' => ∃ v', r = .returned v' ∧ Out w w' 5 1 v' (l.length + 4) (byteVs (l ++ Cfg.be4 n)) := by
  have HC := hid (clone_byts hl (by omega))
  have HB := hid (show byteVs (l ++ Cfg.be4 n) = byteVs l ++ [.int .u8 ((n : Int) / 16777216), .int .u8 ((n : Int) / 65536 % 256), .int .u8 ((n : Int) / 256 % 256), .int .u8 ((n : Int) % 256)] by
    rw [show ((n : Int) / 16777216) = (n : Int) / 16777216 % 256 by omega, byteVs_append, u8_of_nat n, show ((n : Int) / 256) = ((n / 256 : Nat) : Int) from rfl, show ((n : Int) / 65536) = ((n / 65536 : Nat) : Int) from rfl, show ((n : Int) / 16777216) = ((n / 16777216 : Nat) : Int) from rfl, u8_of_nat, u8_of_nat, u8_of_nat]; rfl)
  obtain ⟨m, hm⟩ : ∃ m, m = l.length := ⟨_, rfl⟩
  rw [← hm] at HC hlen ⊢
  clear hl hm
  go_enter Tryd.func58, Tryd.ntmps58
  go_wp2_with fail
  refine HC.out.mono ?_
  rintro r w1 ⟨v1, rfl, ho1, _, hb1⟩
  have H1 := hid (And.intro ho1 hb1)
  clear ho1 hb1
  go_wp2_with fail
  refine (grow_own H1.out.1 H1.out.2.size 4 (by omega)).mono ?_
  rintro r w2 ⟨v2, rfl, ho2, hg2, _⟩
  obtain ⟨A2, cap2, hv, _⟩ := own_form ho2
  subst hv
  have H2 : Hid (Out w w2 5 1 (.slice A2 m cap2) m (byteVs l)) := ⟨ho2, H1.out.2.grown hg2 H1.out.2.size (by simp)⟩
  clear ho2 hg2 H1
  go_wp2_with fail
  refine wp_loop_rounds 5 ?_
  rw [rounds_succ]
  go_wp2_with (at_builtin; refine wp_app1 eiByte rfl (.tmp 17) (.tmp 26) rfl H2 _ rfl rfl rfl rfl rfl (by omega) (by omega) ?_)
  intro A3 cap3 w3 H3 _
  clear H2
  go_wp2_with fail
  rw [rounds_succ]
  go_wp2_with (at_builtin; refine wp_app1 eiByte rfl (.tmp 17) (.tmp 26) rfl H3 _ rfl rfl rfl rfl rfl (by omega) (by omega) ?_)
  intro A4 cap4 w4 H4 _
  clear H3
  go_wp2_with fail
  rw [rounds_succ]
  go_wp2_with (at_builtin; refine wp_app1 eiByte rfl (.tmp 17) (.tmp 26) rfl H4 _ rfl rfl rfl rfl rfl (by omega) (by omega) ?_)
  intro A5 cap5 w5 H5 _
  clear H4
  go_wp2_with fail
  rw [rounds_succ]
  go_wp2_with (at_builtin; refine wp_app1 eiByte rfl (.tmp 17) (.tmp 26) rfl H5 _ rfl rfl rfl rfl rfl (by omega) (by omega) ?_)
  intro A6 cap6 w6 H6 _
  clear H5
  go_wp2_with fail
  rw [rounds_succ]
  go_wp2_with fail
  go_ret
  exact ⟨_, rfl, by rw [HB.out]; exact H6.out⟩

theorem put16_any (v : Value) (l : List UInt8) (n : Nat) (w : World) (hl : Byts w v l) (hlen : l.length ≤ 10000000000000) (hn : n < 65536) :
    Calls Tryd.prog 36 #[v, .int .u16 (n : Nat)] w fun r w' => ∃ v', r = .returned v' ∧ Out w w' 5 1 v' (l.length + 2) (byteVs (l ++ Cfg.be2 n)) := by
  have HC := hid (lay2_any v l n w hl hlen)
  clear hl hlen
  go_enter Tryd.func36, Tryd.ntmps36
  go_wp2_with fail
  refine HC.out.mono ?_
  rintro r w1 ⟨v1, rfl, ho1⟩
  go_wp2
  go_ret
  exact ⟨_, rfl, ho1⟩
theorem put32_any (v : Value) (l : List UInt8) (n : Nat) (w : World) (hl : Byts w v l) (hlen : l.length ≤ 10000000000000) (hn : n < 4294967296) :
    Calls Tryd.prog 37 #[v, .int .u32 (n : Nat)] w fun r w' => ∃ v', r = .returned v' ∧ Out w w' 5 1 v' (l.length + 4) (byteVs (l ++ Cfg.be4 n)) := by
  have HC := hid (lay4_any v l n w hl hlen hn)
  clear hl hlen
  go_enter Tryd.func37, Tryd.ntmps37
  go_wp2_with fail
  refine HC.out.mono ?_
  rintro r w1 ⟨v1, rfl, ho1⟩
  go_wp2
  go_ret
  exact ⟨_, rfl, ho1⟩
end Go.Proofs.YtlijncmjcecppaaDoor
