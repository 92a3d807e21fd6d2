/- config.Decode: what its steps keep. -/
import Derived.Test.YtlijncmjcecppaaDoorDecode
import Derived.Test.YtlijncmjcecppaaDoorDecPlain
namespace Go.Proofs.YtlijncmjcecppaaDoor
open Go.RowKit

theorem u16_at (g : Nat) (x : List UInt8) (o : Nat) (w : World) (h : Rd w g (x.drop o)) (ho : o + 2 ≤ x.length) (hlen : x.length ≤ 1000000000000) :
    Calls Tryd.prog 45 #[.pointer (some ⟨g, 0, none⟩)] w fun r w' => r = .returned (.int .u16 (Cfg.get2 x o)) ∧ Rd w' g (x.drop (o + 2)) ∧ Keep (fun k => k = g) w w' := by
  obtain ⟨a, b, e1, e2⟩ := Cfg.drop2 x o ho
  rw [e1] at h
  rw [e2]
  exact u16_ok g a b _ w h (by simp; omega)
theorem u32_at (g : Nat) (x : List UInt8) (o : Nat) (w : World) (h : Rd w g (x.drop o)) (ho : o + 4 ≤ x.length) (hlen : x.length ≤ 1000000000000) :
    Calls Tryd.prog 46 #[.pointer (some ⟨g, 0, none⟩)] w fun r w' => r = .returned (.int .u32 (Cfg.get4 x o)) ∧ Rd w' g (x.drop (o + 4)) ∧ Keep (fun k => k = g) w w' := by
  obtain ⟨a, b, c, d, e1, e2⟩ := Cfg.drop4 x o ho
  rw [e1] at h
  rw [e2]
  exact u32_ok g a b c d _ w h (by simp; omega)

/-- A crossing's cells. -/
def arrT (S : Value) (f : Nat → Int) : Array Value := #[S, .int .i64 (f 0), .int .i64 (f 1), .int .i64 (f 2), .int .i64 (f 3), .int .i64 (f 4), .int .i64 (f 5), .int .i64 (f 6), .int .i64 (f 7), .int .i64 (f 8), .int .i64 (f 9)]
theorem arrT_set (S : Value) (x : List UInt8) (k : Nat) (h : k < 10) : (arrT S (Cfg.fK x k)).setIfInBounds (1 + k) (.int .i64 ((Cfg.decTimes x).nums.getD k 0)) = arrT S (Cfg.fK x (k + 1)) := by
  match k, h with
  | 0, _ => rfl
  | 1, _ => rfl
  | 2, _ => rfl
  | 3, _ => rfl
  | 4, _ => rfl
  | 5, _ => rfl
  | 6, _ => rfl
  | 7, _ => rfl
  | 8, _ => rfl
  | 9, _ => rfl
theorem arrT_at (S : Value) (f : Nat → Int) (k : Nat) (h : k < 10) : ∃ v, (arrT S f)[1 + k]? = some v := by
  match k, h with
  | 0, _ => exact ⟨_, rfl⟩
  | 1, _ => exact ⟨_, rfl⟩
  | 2, _ => exact ⟨_, rfl⟩
  | 3, _ => exact ⟨_, rfl⟩
  | 4, _ => exact ⟨_, rfl⟩
  | 5, _ => exact ⟨_, rfl⟩
  | 6, _ => exact ⟨_, rfl⟩
  | 7, _ => exact ⟨_, rfl⟩
  | 8, _ => exact ⟨_, rfl⟩
  | 9, _ => exact ⟨_, rfl⟩
theorem arrT_all (S : Value) (x : List UInt8) : Value.agg (arrT S (Cfg.fK x 10)) = .agg #[S, .int .i64 (Cfg.decTimes x).amber, .int .i64 (Cfg.decTimes x).red, .int .i64 (Cfg.decTimes x).entry, .int .i64 (Cfg.decTimes x).travel, .int .i64 (Cfg.decTimes x).prove, .int .i64 (Cfg.decTimes x).opened, .int .i64 (Cfg.decTimes x).override, .int .i64 (Cfg.decTimes x).fresh, .int .i64 (Cfg.decTimes x).approach, .int .i64 (Cfg.decTimes x).warn] := rfl

/-- Ahead of the lines: k times are read. -/
structure DecA (W1 wr : World) (C g : Nat) (x : List UInt8) (k : Nat) : Prop where
  bel : Below W1.heap.size W1 wr
  rd : Rd wr g (x.drop (4 + 2 * k))
  box : Box wr C 39 (arrT (.slice none 0 0) (Cfg.fK x k))
  hC : W1.heap.size ≤ C
  hg : W1.heap.size ≤ g
theorem DecA.read {W1 wr w5 : World} {C g : Nat} {x : List UInt8} {k : Nat} (h : DecA W1 wr C g x k) (hk : Keep (fun j => j = g) wr w5) :
    Box w5 C 39 (arrT (.slice none 0 0) (Cfg.fK x k)) := by
  obtain ⟨cs, hc⟩ := h.rd.box
  exact h.box.kept hk (Box.ne h.box hc (by decide))
theorem DecA.step {W1 wr w5 : World} {C g : Nat} {x : List UInt8} {k : Nat} (h : DecA W1 wr C g x k) (hk : Keep (fun j => j = g) wr w5) (hr : Rd w5 g (x.drop (4 + 2 * k + 2))) (h10 : k < 10) :
    DecA W1 (w5.setCell ⟨C, 1 + k, none⟩ (.int .i64 (Cfg.get2 x (4 + 2 * k)))) C g x (k + 1) := by
  have hb := h.read hk
  refine ⟨?_, ?_, ?_, h.hC, h.hg⟩
  · exact (h.bel.trans (hk.belowBy h.bel.size (fun i hi e => by have := h.hg; omega))).setCell (p := ⟨C, 1 + k, none⟩) h.hC _
  · have := hr.set hb (by decide) (by decide) (1 + k) (.int .i64 (Cfg.get2 x (4 + 2 * k)))
    rw [show 4 + 2 * (k + 1) = 4 + 2 * k + 2 by omega]
    exact this
  · rw [← arrT_set _ x k h10, Cfg.nums_get2 x k h10]
    exact hb.store (1 + k) _

/-- Behind the times: k lines are read, and the reader is at o. -/
structure DecB (W1 wr : World) (C g : Nat) (x : List UInt8) (o : Nat) (S : Value) (k : Nat) : Prop where
  bel : Below W1.heap.size W1 wr
  rd : Rd wr g (x.drop o)
  box : Box wr C 39 (arrT S (Cfg.fK x 10))
  out : Out W1 wr 24 5 S k (linesVs (Cfg.decLs x k))
  hC : W1.heap.size ≤ C
  hg : W1.heap.size ≤ g
section
variable {W1 wr w5 : World} {C g k o o' L : Nat} {x : List UInt8} {S : Value} {la : Array Value}
theorem DecB.alloc (h : DecB W1 wr C g x o S k) (ob : Obj) : DecB W1 (wr.alloc ob) C g x o S k :=
  ⟨h.bel.alloc h.bel.size ob, h.rd.below ((Below.refl _ _).alloc (Nat.le_refl _) _), h.box.alloc ob, h.out.below ((Below.refl _ _).alloc (Nat.le_refl _) _), h.hC, h.hg⟩
theorem DecB.read (h : DecB W1 wr C g x o S k) (hk : Keep (fun j => j = g) wr w5) (hr : Rd w5 g (x.drop o')) : DecB W1 w5 C g x o' S k := by
  obtain ⟨cs, hc⟩ := h.rd.box
  have hb : Below W1.heap.size W1 w5 := h.bel.trans (hk.belowBy h.bel.size (fun i hi e => by have := h.hg; omega))
  refine ⟨hb, hr, h.box.kept hk (Box.ne h.box hc (by decide)), ⟨own_kept h.out.1 hk ?_, hb⟩, h.hC, h.hg⟩
  intro g' e1 e2
  exact own_ne_box h.out.1 hc (by decide) (by rw [e1, e2])
/-- The same, and a line in block L. -/
structure DecL (W1 wr : World) (C g : Nat) (x : List UInt8) (o : Nat) (S : Value) (k L : Nat) (la : Array Value) : Prop where
  b : DecB W1 wr C g x o S k
  line : Box wr L 24 la
  ne : S.ownBlock ≠ some L
  hL : W1.heap.size ≤ L
theorem DecL.new (h : DecB W1 wr C g x o S k) (la : Array Value) : DecL W1 (wr.alloc (.cells la 24)) C g x o S k wr.heap.size la :=
  ⟨h.alloc _, Box.new _ _ _, fun e => by have := (h.out.1.lt _ e).2; omega, h.bel.size⟩
theorem DecL.read (h : DecL W1 wr C g x o S k L la) (hk : Keep (fun j => j = g) wr w5) (hr : Rd w5 g (x.drop o')) : DecL W1 w5 C g x o' S k L la := by
  obtain ⟨cs, hc⟩ := h.b.rd.box
  exact ⟨h.b.read hk hr, h.line.kept hk (Box.ne h.line hc (by decide)), h.ne, h.hL⟩
theorem DecL.store (h : DecL W1 wr C g x o S k L la) (i : Nat) (v : Value) : DecL W1 (wr.setCell ⟨L, i, none⟩ v) C g x o S k L (la.setIfInBounds i v) := by
  have hb := h.b.bel.setCell (p := ⟨L, i, none⟩) h.hL v
  refine ⟨⟨hb, h.b.rd.set h.line (by decide) (by decide) i v, h.b.box.aside (Box.ne h.b.box h.line (by decide)) v, ⟨own_aside h.b.out.1 h.ne v, hb⟩, h.b.hC, h.b.hg⟩, h.line.store i v, h.ne, h.hL⟩
/-- A line more is in the slice, and then in the crossing. -/
theorem DecB.more {S' : Value} (h : DecB W1 wr C g x (24 + 14 * k + 14) S k) (hg : wr.grownBy w5 S.ownBlock) (ho : Out W1 w5 24 5 S' (k + 1) (linesVs (Cfg.decLs x (k + 1)))) :
    DecB W1 (w5.setCell ⟨C, 0, none⟩ S') C g x (24 + 14 * (k + 1)) S' (k + 1) ∧ Box w5 C 39 (arrT S (Cfg.fK x 10)) := by
  have hbx : Box w5 C 39 (arrT S (Cfg.fK x 10)) := h.box.grown hg (own_ne_box h.out.1 h.box (by decide))
  have hrd : Rd w5 g (x.drop (24 + 14 * k + 14)) := h.rd.grown hg (fun j e => by
    rcases h.out.1.2 with ⟨rfl, _⟩ | ⟨g', cap, cur, rfl, _, hh, _⟩
    · cases e
    · have e' : g' = j := Option.some.inj e
      subst e'
      exact ⟨_, _, hh, by decide, by decide⟩)
  have hb := ho.bel.setCell (p := ⟨C, 0, none⟩) h.hC S'
  refine ⟨⟨hb, ?_, hbx.store 0 S', ⟨own_aside ho.1 (own_ne_box ho.1 hbx (by decide)) S', hb⟩, h.hC, h.hg⟩, hbx⟩
  rw [show 24 + 14 * (k + 1) = 24 + 14 * k + 14 by omega]
  exact hrd.set hbx (by decide) (by decide) 0 S'
end
theorem infoLine' : (Tryd.prog.info? 24).map (fun i => (i.zero, i.size, i.bytes)) = some (some (.agg #[.int .i64 0, .int .i64 0, .int .i64 0, .int .i64 0, .int .i64 0]), 5, 40) := by kernel_rfl
theorem eiLine : EInfo 35 24 5 40 := ⟨Tryd.underlying35, by obtain ⟨i, a, b, c, d⟩ := info_parts infoLine'; exact ⟨i, _, a, b, c, d, rfl⟩, by decide⟩
end Go.Proofs.YtlijncmjcecppaaDoor
