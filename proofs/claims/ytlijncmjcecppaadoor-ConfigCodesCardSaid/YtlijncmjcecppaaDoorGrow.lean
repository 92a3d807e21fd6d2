/- slices.Grow of bytes by contract: the row is kept, maybe in a new block. -/
import Derived.Test.YtlijncmjcecppaaDoorClone
import Derived.Lib.AppendZerosOnto
namespace Go.Proofs.YtlijncmjcecppaaDoor
open Go.RowKit

theorem grow_room (base : Option Addr) (l c n : Nat) (w : World) (hlc : l ≤ c) (hc63 : c ≤ 9223372036854775807) (hn63 : n ≤ 9223372036854775807) (hroom : l + n ≤ c) :
    Calls Tryd.prog 68 #[.slice base l c, .int .i64 n] w fun e w' => e = .returned (.slice base l c) ∧ w = w' := by
  have h1 : ¬ ((n : Int) < 0) := by omega
  have h2 : wrap64 ((c : Int) - (l : Int)) = (c : Int) - (l : Int) := by unfold wrap64; omega
  have h3 : wrap64 ((n : Int) - ((c : Int) - (l : Int))) = (n : Int) - ((c : Int) - (l : Int)) := by unfold wrap64; omega
  have h4 : ¬ ((n : Int) - ((c : Int) - (l : Int)) > 0) := by omega
  go_enter Tryd.func68, Tryd.ntmps68
  go_wp2
  go_ret
  exact ⟨rfl, rfl⟩

set_option maxHeartbeats 4000000 in
theorem grow_grow (base : Option Addr) (l c n : Nat) (cs : List Value) (w : World) (hlc : l ≤ c) (hroom : c < l + n) (hbig : l + n ≤ 140737488355328)
    (hcl : cs.length = c) (hnil : base = none → c = 0) (hcs : ∀ a, base = some a → ∀ j v, cs[j]? = some v → w.cell? (a.add j) = some v) :
    Calls Tryd.prog 68 #[.slice base l c, .int .i64 n] w fun e w' => ∃ G, l + n ≤ G ∧ G ≤ maxLen ∧
      e = .returned (.slice (some ⟨w.heap.size, 0, none⟩) l G) ∧
      w' = w.drew.alloc (.cells (cs.toArray ++ Builtin.zeroCells #[.int .u8 0] (l + n - c) ++ Builtin.zeroCells #[.int .u8 0] (G - (l + n))) 5) := by
  obtain ⟨i0, hi, hz0, hz1, hz2⟩ := info_parts infoByte
  have h1 : ¬ ((n : Int) < 0) := by omega
  have h2 : wrap64 ((c : Int) - (l : Int)) = (c : Int) - (l : Int) := by unfold wrap64; omega
  have h3 : wrap64 ((n : Int) - ((c : Int) - (l : Int))) = (n : Int) - ((c : Int) - (l : Int)) := by unfold wrap64; omega
  have h4 : (n : Int) - ((c : Int) - (l : Int)) > 0 := by omega
  have hck : c + (l + n - c) = l + n := by omega
  have hold : (Builtin.firstCells i0.size c (.slice base c c)).run Tryd.prog w.drew = .ok cs.toArray w.drew := by
    cases base with
    | none =>
      have h0 := hnil rfl
      subst h0
      have hc0 : cs = [] := List.length_eq_zero_iff.1 (by simpa using hcl)
      rw [hc0]
      exact run_firstCells_none w.drew i0.size 0 0 0
    | some a => exact run_firstCells_some w.drew i0.size c a c c cs (by rw [hz1]; omega) (fun j v hj => hcs a rfl j v hj)
  obtain ⟨G, hG⟩ : ∃ G, G = grownCap w (l + n) c 5 := ⟨_, rfl⟩
  have hrz : ∀ ty, (Builtin.append_ #[42, 3] ty #[.slice base c c, .int .i64 ((n : Int) - ((c : Int) - (l : Int)))]).run Tryd.prog w =
      .ok (.slice (some ⟨w.heap.size, 0, none⟩) (l + n) G) (w.drew.alloc (.cells (cs.toArray ++ Builtin.zeroCells #[.int .u8 0] (l + n - c) ++ Builtin.zeroCells #[.int .u8 0] (G - (l + n))) 5)) := fun ty => by
    have h := Lib.run_append_grow_zeros (P := Tryd.prog) w 42 3 ty 5 i0 _ .i64 .i64 Tryd.underlying42 Tryd.underlying3 hi hz0 base c c cs hold (l + n - c) (by omega) (by rw [hz1]; decide) (by omega) (by omega)
      (by rw [hz2]; omega)
      (by rw [hck]; exact growslice_fits hroom (by rw [hz2]; omega))
    rw [hck] at h
    rw [show (n : Int) - ((c : Int) - (l : Int)) = ((l + n - c : Nat) : Int) by omega, hG]
    exact h
  have hGn : l + n ≤ G := by rw [hG]; exact grownCap_ge w _ _ _
  have hG63 : G ≤ maxLen := by
    rw [hG]
    exact grownCap_le_maxLen w (l + n) c 5 (by unfold maxLen; omega)
  have hG64 : G ≤ 9223372036854775807 := by
    unfold maxLen at hG63
    omega
  clear hold hck hG hcs hcl hi hz0 hz1 hz2
  have HG := hid hG63
  clear hG63
  go_enter Tryd.func68, Tryd.ntmps68
  cases base with
  | none =>
    have h0 := hnil rfl
    subst h0
    obtain rfl : l = 0 := by omega
    go_wp2_with (at_builtin; refine Lib.wpList_append_run _ rfl _ _ _ _ rfl _ _ rfl rfl _ _ (hrz _) ?_)
    all_goals (go_ret; exact ⟨G, by omega, HG.out, by simp, by simp⟩)
  | some a =>
    obtain ⟨ab, ao, asp⟩ := a
    go_wp2_with (at_builtin; refine Lib.wpList_append_run _ rfl _ _ _ _ rfl _ _ rfl rfl _ _ (hrz _) ?_)
    all_goals (go_ret; exact ⟨G, hGn, HG.out, rfl, rfl⟩)

theorem alloc_new (w : World) (o : Obj) : (w.drew.alloc o).heap[w.heap.size]? = some o := by
  show (w.heap.push o)[w.heap.size]? = some o
  simp
theorem alloc_old (w : World) (o : Obj) {k : Nat} (hk : k < w.heap.size) : (w.drew.alloc o).heap[k]? = w.heap[k]? := by
  show (w.heap.push o)[k]? = _
  rw [Array.getElem?_push, if_neg (by omega)]
theorem zeroCells_byte (k : Nat) : (Builtin.zeroCells #[.int .u8 0] k).size = k := by
  rw [size_zeroCells]; simp

theorem grow_own {base : Nat} {v : Value} {l : Nat} {xs : List Value} {w : World} (h : w.ownsRow base 5 1 v l xs) (hb : base ≤ w.heap.size) (n : Nat) (hn : l + n ≤ 140737488355328) :
    Calls Tryd.prog 68 #[v, .int .i64 n] w fun r w' => ∃ v', r = .returned v' ∧ w'.ownsRow base 5 1 v' l xs ∧ w.grownBy w' none ∧ (v' = .slice none 0 0 → v = .slice none 0 0) := by
  obtain ⟨hx, h2⟩ := h
  rcases h2 with ⟨rfl, rfl⟩ | ⟨g, cap, cur, rfl, hbg, hcell, hlc, hcm, hcs, htk⟩
  · by_cases hn0 : n = 0
    · subst hn0
      refine (grow_room none 0 0 0 w (by omega) (by omega) (by omega) (by omega)).mono ?_
      rintro r w' ⟨rfl, rfl⟩
      exact ⟨_, rfl, ⟨hx, .inl ⟨rfl, rfl⟩⟩, ⟨rfl, rfl, rfl, Nat.le_refl _, fun _ _ _ => rfl⟩, fun e => e⟩
    · refine (grow_grow none 0 0 n [] w (by omega) (by omega) (by omega) rfl (fun _ => rfl) (fun a e => by cases e)).mono ?_
      rintro r w' ⟨G, hG, hGm, rfl, rfl⟩
      refine ⟨_, rfl, ⟨hx, .inr ⟨_, G, _, rfl, hb, by exact alloc_new _ _, by omega, hGm, ?_, ?_⟩⟩, ⟨rfl, rfl, rfl, ?_, ?_⟩, fun e => by cases e⟩
      · simp [zeroCells_byte]; omega
      · have : xs = [] := List.length_eq_zero_iff.1 (by omega)
        simp [this]
      · simp
      · intro k hk _
        exact alloc_old _ _ hk
  · by_cases hr : l + n ≤ cap
    · have : cap ≤ 9223372036854775807 := by unfold maxLen at hcm; omega
      refine (grow_room _ l cap n w hlc this (by omega) hr).mono ?_
      rintro r w' ⟨rfl, rfl⟩
      exact ⟨_, rfl, ⟨hx, .inr ⟨g, cap, cur, rfl, hbg, hcell, hlc, hcm, hcs, htk⟩⟩, ⟨rfl, rfl, rfl, Nat.le_refl _, fun _ _ _ => rfl⟩, fun e => e⟩
    · refine (grow_grow _ l cap n cur.toList w hlc (by omega) (by omega) (by simp [hcs]) (fun e => by cases e) ?_).mono ?_
      · intro a e j u hj
        cases e
        have e : (⟨g, 0, Option.none⟩ : Addr).add j = ⟨g, j, Option.none⟩ := by simp [Addr.add]; rintro rfl; rfl
        rw [e]
        simp only [World.cell?, hcell]
        simpa using hj
      · rintro r w' ⟨G, hG, hGm, rfl, rfl⟩
        refine ⟨_, rfl, ⟨hx, .inr ⟨_, G, _, rfl, hb, by exact alloc_new _ _, by omega, hGm, ?_, ?_⟩⟩, ⟨rfl, rfl, rfl, ?_, ?_⟩, fun e => by cases e⟩
        · simp [zeroCells_byte, hcs]; omega
        · rw [← htk]
          simp [List.take_append, hcs]
          omega
        · simp
        · intro k hk _
          exact alloc_old _ _ hk
end Go.Proofs.YtlijncmjcecppaaDoor
