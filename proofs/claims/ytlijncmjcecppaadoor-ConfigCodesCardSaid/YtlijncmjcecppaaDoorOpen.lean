/- Lines and crossings that came in as data: their cells. -/
import Derived.Test.YtlijncmjcecppaaDoorRowKit
import Derived.Test.YtlijncmjcecppaaDoorCheck3
namespace Go.Proofs.YtlijncmjcecppaaDoor
open Go.ChangeShapes Go.WideShapes Go.RowKit
set_option maxRecDepth 100000

theorem o_cellsI : Tryd.prog.cellsOf 3 = 1 := by kernel_rfl
theorem o_cellsA : Tryd.prog.cellsOf 22 = 3 := by kernel_rfl
theorem o_cellsL : Tryd.prog.cellsOf 24 = 5 := by kernel_rfl
theorem o_cellsT : Tryd.prog.cellsOf 37 = 10 := by kernel_rfl
theorem o_cellsS : Tryd.prog.cellsOf 35 = 1 := by kernel_rfl
theorem o_cellsC : Tryd.prog.cellsOf 39 = 11 := by kernel_rfl

section
variable {H : Type} {enc : TypeId × Value → H} {w : World} {base : Nat} {spare : Nat → Bool} {held : Bool} {fuel : Nat}
theorem o_int {cs : List Value} {x : DataW H × List MemPlace} (h : DataW.trod enc Tryd.prog w base spare held fuel 3 cs = some x) : ∃ n, cs = [.int .i64 n] ∧ I64 n := by
  obtain ⟨n, rfl, _, hw⟩ := DataW.trod_int Tryd.underlying3 h
  exact ⟨n, rfl, bounds_i64 hw⟩
theorem o_intAt {cs : List Value} {xs : List (DataW H × List MemPlace)} {i : Nat} (hi : i < xs.length) (h : DataW.trod enc Tryd.prog w base spare held fuel 3 cs = xs[i]?) : ∃ n, cs = [.int .i64 n] ∧ I64 n := by
  rw [List.getElem?_eq_getElem hi] at h
  exact o_int h

def Ln.fits (l : Ln) : Prop := I64 l.strike ∧ I64 l.signal ∧ I64 l.s0 ∧ I64 l.s1 ∧ I64 l.s2
theorem o_line {cs : List Value} {x : DataW H × List MemPlace} (h : DataW.trod enc Tryd.prog w base spare held fuel 24 cs = some x) : ∃ l : Ln, cs = lnVs l ∧ l.fits := by
  obtain ⟨xs, n, _, _, hlen, hxs, hf⟩ := DataW.trod_struct Tryd.underlying24 h
  rw [o_cellsL] at hlen
  have hxs' : xs.length = 3 := hxs
  match cs, hlen with
  | [c0, c1, c2, c3, c4], _ =>
    have h0 : DataW.trod enc Tryd.prog w base spare held n 3 ((List.drop 0 [c0, c1, c2, c3, c4]).take (Tryd.prog.cellsOf 3)) = xs[0]? := hf 0 _ rfl
    have h1 : DataW.trod enc Tryd.prog w base spare held n 3 ((List.drop 1 [c0, c1, c2, c3, c4]).take (Tryd.prog.cellsOf 3)) = xs[1]? := hf 1 _ rfl
    have h2 : DataW.trod enc Tryd.prog w base spare held n 22 ((List.drop 2 [c0, c1, c2, c3, c4]).take (Tryd.prog.cellsOf 22)) = xs[2]? := hf 2 _ rfl
    simp only [o_cellsI, o_cellsA] at h0 h1 h2
    obtain ⟨n0, e0, w0⟩ := o_intAt (by omega) h0
    obtain ⟨n1, e1, w1⟩ := o_intAt (by omega) h1
    rw [List.getElem?_eq_getElem (by omega)] at h2
    obtain ⟨ys, m, _, _, _, hys, hg⟩ := DataW.trod_array Tryd.underlying22 h2
    have g0 := hg 0 (by omega)
    have g1 := hg 1 (by omega)
    have g2 := hg 2 (by omega)
    simp only [o_cellsI] at g0 g1 g2
    obtain ⟨n2, e2, w2⟩ := o_intAt (by omega) g0
    obtain ⟨n3, e3, w3⟩ := o_intAt (by omega) g1
    obtain ⟨n4, e4, w4⟩ := o_intAt (by omega) g2
    simp at e0 e1 e2 e3 e4
    subst e0 e1 e2 e3 e4
    exact ⟨⟨n0, n1, n2, n3, n4⟩, rfl, w0, w1, w2, w3, w4⟩

theorem o_lines {cs : List Value} {x : DataW H × List MemPlace} (h : DataW.trod enc Tryd.prog w base spare held fuel 35 cs = some x) :
    ∃ (A : Option Addr) (ls : List Ln) (cap : Nat), cs = [.slice A ls.length cap] ∧ Sees w A (linesVs ls) ∧ (∀ l ∈ ls, l.fits) := by
  rcases DataW.trod_slice Tryd.underlying35 h with ⟨rfl, _⟩ | ⟨a, len, cap, elems, rest, n, _, rfl, _, _, _, _, hlen, hel, _⟩
  · exact ⟨none, [], 0, rfl, Sees.nil _ _, fun l hl => by cases hl⟩
  · have key : ∀ m, m ≤ len → ∃ ls : List Ln, ls.length = m ∧ Sees w (some a) (linesVs ls) ∧ (∀ l ∈ ls, l.fits) := by
      intro m
      induction m with
      | zero => intro _; exact ⟨[], rfl, Sees.nil _ _, fun l hl => by cases hl⟩
      | succ m ih =>
        intro hm
        obtain ⟨ls, hl, hs, hf⟩ := ih (by omega)
        have h1 := hel m (by omega)
        rw [List.getElem?_eq_getElem (by omega)] at h1
        obtain ⟨cs', hc, ht⟩ := Option.bind_eq_some_iff.1 h1
        rw [o_cellsL] at hc
        obtain ⟨_, _, hat⟩ := World.cells?_some hc
        obtain ⟨l, rfl, hfit⟩ := o_line ht
        refine ⟨ls ++ [l], by simp [hl], ?_, ?_⟩
        · intro j v hv
          refine ⟨a, rfl, ?_⟩
          have e : linesVs (ls ++ [l]) = linesVs ls ++ lnVs l := by simp [linesVs]
          rw [e] at hv
          by_cases hj : j < (linesVs ls).length
          · rw [List.getElem?_append_left hj] at hv
            obtain ⟨a', ea, hc'⟩ := hs j v hv
            injection ea with ea
            rw [ea]; exact hc'
          · rw [List.getElem?_append_right (by omega)] at hv
            rw [linesVs_length, hl] at hv hj
            have hj5 : j - 5 * m < 5 := by
              have := (List.getElem?_eq_some_iff.1 hv).1
              exact this
            have := hat (j - 5 * m) hj5
            rw [add_twice] at this
            have ej : m * 5 + (j - 5 * m) = j := by omega
            rw [ej] at this
            exact this.trans hv
        · intro l' hl'
          rcases List.mem_append.1 hl' with h' | h'
          · exact hf l' h'
          · rw [List.mem_singleton.1 h']; exact hfit
    obtain ⟨ls, hl, hs, hf⟩ := key len (Nat.le_refl _)
    exact ⟨some a, ls, cap, by rw [hl], hs, hf⟩

def Tm.fits (t : Tm) : Prop := ∀ n ∈ t.nums, I64 n
theorem o_times {cs : List Value} {x : DataW H × List MemPlace} (h : DataW.trod enc Tryd.prog w base spare held fuel 37 cs = some x) : ∃ t : Tm, cs = t.nums.map (Value.int .i64) ∧ t.fits := by
  obtain ⟨xs, n, _, _, hlen, hxs, hf⟩ := DataW.trod_struct Tryd.underlying37 h
  rw [o_cellsT] at hlen
  have hxs' : xs.length = 10 := hxs
  match cs, hlen with
  | [c0, c1, c2, c3, c4, c5, c6, c7, c8, c9], _ =>
    have h0 : DataW.trod enc Tryd.prog w base spare held n 3 ((List.drop 0 [c0, c1, c2, c3, c4, c5, c6, c7, c8, c9]).take (Tryd.prog.cellsOf 3)) = xs[0]? := hf 0 _ rfl
    have h1 : DataW.trod enc Tryd.prog w base spare held n 3 ((List.drop 1 [c0, c1, c2, c3, c4, c5, c6, c7, c8, c9]).take (Tryd.prog.cellsOf 3)) = xs[1]? := hf 1 _ rfl
    have h2 : DataW.trod enc Tryd.prog w base spare held n 3 ((List.drop 2 [c0, c1, c2, c3, c4, c5, c6, c7, c8, c9]).take (Tryd.prog.cellsOf 3)) = xs[2]? := hf 2 _ rfl
    have h3 : DataW.trod enc Tryd.prog w base spare held n 3 ((List.drop 3 [c0, c1, c2, c3, c4, c5, c6, c7, c8, c9]).take (Tryd.prog.cellsOf 3)) = xs[3]? := hf 3 _ rfl
    have h4 : DataW.trod enc Tryd.prog w base spare held n 3 ((List.drop 4 [c0, c1, c2, c3, c4, c5, c6, c7, c8, c9]).take (Tryd.prog.cellsOf 3)) = xs[4]? := hf 4 _ rfl
    have h5 : DataW.trod enc Tryd.prog w base spare held n 3 ((List.drop 5 [c0, c1, c2, c3, c4, c5, c6, c7, c8, c9]).take (Tryd.prog.cellsOf 3)) = xs[5]? := hf 5 _ rfl
    have h6 : DataW.trod enc Tryd.prog w base spare held n 3 ((List.drop 6 [c0, c1, c2, c3, c4, c5, c6, c7, c8, c9]).take (Tryd.prog.cellsOf 3)) = xs[6]? := hf 6 _ rfl
    have h7 : DataW.trod enc Tryd.prog w base spare held n 3 ((List.drop 7 [c0, c1, c2, c3, c4, c5, c6, c7, c8, c9]).take (Tryd.prog.cellsOf 3)) = xs[7]? := hf 7 _ rfl
    have h8 : DataW.trod enc Tryd.prog w base spare held n 3 ((List.drop 8 [c0, c1, c2, c3, c4, c5, c6, c7, c8, c9]).take (Tryd.prog.cellsOf 3)) = xs[8]? := hf 8 _ rfl
    have h9 : DataW.trod enc Tryd.prog w base spare held n 3 ((List.drop 9 [c0, c1, c2, c3, c4, c5, c6, c7, c8, c9]).take (Tryd.prog.cellsOf 3)) = xs[9]? := hf 9 _ rfl
    simp only [o_cellsI] at h0 h1 h2 h3 h4 h5 h6 h7 h8 h9
    obtain ⟨n0, e0, w0⟩ := o_intAt (by omega) h0
    obtain ⟨n1, e1, w1⟩ := o_intAt (by omega) h1
    obtain ⟨n2, e2, w2⟩ := o_intAt (by omega) h2
    obtain ⟨n3, e3, w3⟩ := o_intAt (by omega) h3
    obtain ⟨n4, e4, w4⟩ := o_intAt (by omega) h4
    obtain ⟨n5, e5, w5⟩ := o_intAt (by omega) h5
    obtain ⟨n6, e6, w6⟩ := o_intAt (by omega) h6
    obtain ⟨n7, e7, w7⟩ := o_intAt (by omega) h7
    obtain ⟨n8, e8, w8⟩ := o_intAt (by omega) h8
    obtain ⟨n9, e9, w9⟩ := o_intAt (by omega) h9
    simp at e0 e1 e2 e3 e4 e5 e6 e7 e8 e9
    subst e0 e1 e2 e3 e4 e5 e6 e7 e8 e9
    refine ⟨⟨n0, n1, n2, n3, n4, n5, n6, n7, n8, n9⟩, rfl, ?_⟩
    intro n hn
    simp only [Tm.nums, List.mem_cons, List.not_mem_nil, or_false] at hn
    rcases hn with rfl | rfl | rfl | rfl | rfl | rfl | rfl | rfl | rfl | rfl <;> assumption

def Cf.fits (c : Cf) : Prop := c.times.fits ∧ ∀ l ∈ c.lines, l.fits
theorem o_config {cs : List Value} {x : DataW H × List MemPlace} (h : DataW.trod enc Tryd.prog w base spare held fuel 39 cs = some x) :
    ∃ (c : Cf) (A : Option Addr) (cap : Nat), cs = (cfV A c.lines.length cap c.times).cells.toList ∧ Sees w A (linesVs c.lines) ∧ c.fits := by
  obtain ⟨xs, n, _, _, hlen, hxs, hf⟩ := DataW.trod_struct Tryd.underlying39 h
  rw [o_cellsC] at hlen
  have hxs' : xs.length = 2 := hxs
  have h0 : DataW.trod enc Tryd.prog w base spare held n 35 ((List.drop 0 cs).take (Tryd.prog.cellsOf 35)) = xs[0]? := hf 0 _ rfl
  have h1 : DataW.trod enc Tryd.prog w base spare held n 37 ((List.drop 1 cs).take (Tryd.prog.cellsOf 37)) = xs[1]? := hf 1 _ rfl
  simp only [o_cellsS, o_cellsT] at h0 h1
  rw [List.getElem?_eq_getElem (by omega)] at h0 h1
  obtain ⟨A, ls, cap, e0, hs, hl⟩ := o_lines h0
  obtain ⟨t, e1, ht⟩ := o_times h1
  refine ⟨⟨ls, t⟩, A, cap, ?_, hs, ht, hl⟩
  have ec : cs = cs.take 1 ++ (cs.drop 1).take 10 := by
    have h10 : (cs.drop 1).take 10 = cs.drop 1 := List.take_of_length_le (by simp; omega)
    rw [h10, List.take_append_drop]
  have e0' : cs.take 1 = [.slice A ls.length cap] := by simpa using e0
  rw [ec, e0', e1]
  rfl
end

theorem open_line {H : Type} {enc : TypeId × Value → H} {W : World} {r : Reach} {base b0 : Nat} {spare : Nat → Bool} {held : Bool} {v : Value} {d : DataW H} {p : List MemPlace} (hv : Value.okWide Tryd.prog W r b0 24 v) (h : DataW.Trod enc Tryd.prog W base spare held 24 v d p) :
    ∃ l : Ln, v = .agg (lnA l) ∧ l.fits := by
  obtain ⟨cs, rfl, _⟩ := okWide_struct Tryd.underlying24 hv
  obtain ⟨fuel, hf⟩ := h
  obtain ⟨l, e, hl⟩ := o_line hf
  refine ⟨l, ?_, hl⟩
  have : cs.toList = (lnA l).toList := e
  rw [Array.toList_inj.1 this]
theorem open_config {H : Type} {enc : TypeId × Value → H} {W : World} {r : Reach} {base b0 : Nat} {spare : Nat → Bool} {held : Bool} {v : Value} {d : DataW H} {p : List MemPlace} (hv : Value.okWide Tryd.prog W r b0 39 v) (h : DataW.Trod enc Tryd.prog W base spare held 39 v d p) :
    ∃ (c : Cf) (A : Option Addr) (cap : Nat), v = cfV A c.lines.length cap c.times ∧ Sees W A (linesVs c.lines) ∧ c.fits := by
  obtain ⟨cs, rfl, _⟩ := okWide_struct Tryd.underlying39 hv
  obtain ⟨fuel, hf⟩ := h
  obtain ⟨c, A, cap, e, hs, hl⟩ := o_config hf
  refine ⟨c, A, cap, ?_, hs, hl⟩
  have : cs.toList = (cfV A c.lines.length cap c.times).cells.toList := e
  rw [Array.toList_inj.1 this]
  rfl
end Go.Proofs.YtlijncmjcecppaaDoor
