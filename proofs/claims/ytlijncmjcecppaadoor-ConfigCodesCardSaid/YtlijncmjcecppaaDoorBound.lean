/- Package delay by contracts: Bound. -/
import Derived.Test.YtlijncmjcecppaaDoorOf
namespace Go.Proofs.YtlijncmjcecppaaDoor
open Go.RowKit

def Dly.boundN (c : Cf) : Int := if Cfg.ok c then 8 + c.times.approach + c.times.fresh + c.times.fresh + c.times.travel else 0
theorem ErrIs.nilOf {w : World} {x : Value} (h : ErrIs w x 0) : x = .nilIface := by
  rcases h with h | h
  · exact h.1
  · exact absurd rfl h.1
theorem ErrIs.ifaceOf {w : World} {x : Value} {e : Int} (h : ErrIs w x e) (he : e ≠ 0) : ∃ t y, x = .iface t y := by
  rcases h with h | ⟨_, n, _, h⟩
  · exact absurd h.2 he
  · exact h.form

set_option maxHeartbeats 1000000 in
theorem bound_any (c : Cf) (A : Option Addr) (cap : Nat) (w : World) (hs : Sees w A (linesVs c.lines)) (hbig : c.lines.length ≤ 1000000000000000) :
    Calls Tryd.prog 17 #[cfV A c.lines.length cap c.times] w (RetIE w (Dly.boundN c) (Cfg.code c)) := by
  have HC := hid (fun W (h : Sees W A (linesVs c.lines)) => check_any c A cap W h hbig)
  have HS := hid hs
  have HB := hid (fun h : Cfg.ok c = true => ((Cfg.ok_iff c).1 h).2.1)
  unfold Dly.boundN
  unfold Cfg.code at HC ⊢
  cases e : Cfg.ok c with
  | false =>
    rw [e] at HC
    simp only [Bool.false_eq_true, if_false] at HC ⊢
    clear e hs
    cases c with
    | mk ls t =>
      simp only at HC HS hbig
      generalize ls.length = n at *
      simp only [cfV] at HC ⊢
      go_enter Tryd.func17, Tryd.ntmps17
      go_wp2_with fail
      refine (HC.out _ (HS.out.alloc _)).mono ?_
      rintro r w2 ⟨x, rfl, hx, hb⟩
      have hx' := hx
      obtain ⟨tx, y, rfl⟩ := hx'.ifaceOf (by omega)
      have B := hid hb
      have X := hid hx
      clear hb hx hx'
      go_wp2_with fail
      refine (wrap_any _ _ _ _ X.out).mono ?_
      rintro r w3 ⟨z, rfl, hz, _, hb3⟩
      go_wp2
      go_ret2
      exact ⟨z, rfl, hz, ((Below.refl _ _).alloc (Nat.le_refl _) _).trans ((B.out.trans (hb3.mono B.out.size)).mono (by simp))⟩
  | true =>
    rw [e] at HC
    simp only [if_true] at HC ⊢
    have hb := HB.out e
    clear e hs HB
    cases c with
    | mk ls t =>
      simp only at HC HS hbig hb
      generalize ls.length = n at *
      cases t with
      | mk a b c d e f g i j k =>
        simp only [cfV] at HC ⊢
        simp only [Tm.nums, List.mem_cons, List.not_mem_nil, or_false, forall_eq_or_imp, forall_eq] at hb
        obtain ⟨⟨a1, a2⟩, ⟨b1, b2⟩, ⟨c1, c2⟩, ⟨d1, d2⟩, ⟨e1, e2⟩, ⟨f1, f2⟩, ⟨g1, g2⟩, ⟨i1, i2⟩, ⟨j1, j2⟩, k1, k2⟩ := hb
        go_enter Tryd.func17, Tryd.ntmps17
        go_wp2_with fail
        refine (HC.out _ (HS.out.alloc _)).mono ?_
        rintro r w2 ⟨x, rfl, hx, hb⟩
        obtain rfl := hx.nilOf
        have hbx := Box.below (Box.new w 39 #[.slice A n cap, .int .i64 a, .int .i64 b, .int .i64 c, .int .i64 d, .int .i64 e, .int .i64 f, .int .i64 g, .int .i64 i, .int .i64 j, .int .i64 k]) hb (by simp)
        have cd : w2.cell? ⟨w.heap.size, 4, none⟩ = some (.int .i64 d) := (hbx.cell 4).trans rfl
        have ci : w2.cell? ⟨w.heap.size, 8, none⟩ = some (.int .i64 i) := (hbx.cell 8).trans rfl
        have cj : w2.cell? ⟨w.heap.size, 9, none⟩ = some (.int .i64 j) := (hbx.cell 9).trans rfl
        have hsz : w.heap.size < w2.heap.size := hbx.lt
        have B := hid hb
        clear hb hx hbx
        go_wp2_with fail
        refine wp_loop_rounds 5 ?_
        rw [rounds_succ]
        go_wp2_with (go_at_call 14; refine (add_ok _ _ _ (by omega) (by omega)).mono ?_; rintro r w' ⟨rfl, rfl⟩)
        rw [rounds_succ]
        go_wp2_with (go_at_call 14; refine (add_ok _ _ _ (by omega) (by omega)).mono ?_; rintro r w' ⟨rfl, rfl⟩)
        rw [rounds_succ]
        go_wp2_with (go_at_call 14; refine (add_ok _ _ _ (by omega) (by omega)).mono ?_; rintro r w' ⟨rfl, rfl⟩)
        rw [rounds_succ]
        go_wp2_with (go_at_call 14; refine (add_ok _ _ _ (by omega) (by omega)).mono ?_; rintro r w' ⟨rfl, rfl⟩)
        rw [rounds_succ]
        go_wp2
        go_ret2
        exact ⟨_, rfl, .inl ⟨rfl, rfl⟩, ((Below.refl _ _).alloc (Nat.le_refl _) _).trans ((B.out.mono (by simp)).alloc (by omega) _)⟩
end Go.Proofs.YtlijncmjcecppaaDoor
