/- Words on memory: what a call may turn (Keep), a block that is known whole (Box), cells that lie at an address (Sees); and small helpers of walks. -/
import Derived.WalkKit
import Derived.WalkSpells
import Derived.WalkLawsBesides
import Derived.Maps.AppendAt
import Derived.Deep.AppendLies
import Derived.Deep.Draws
import Derived.Deep.LoopGhost
import Derived.Laws.Rows
import Derived.Laws.Tables
import Derived.Laws.CopyOwn
namespace Go.Proofs.YtlijncmjcecppaaDoor
open Go.RowKit

theorem add_block (a : Addr) (n : Nat) : (a.add n).block = a.block := by unfold Addr.add; split <;> rfl
theorem add_twice (a : Addr) (i j : Nat) : (a.add i).add j = a.add (i + j) := by
  unfold Addr.add
  by_cases hi : i = 0 <;> by_cases hj : j = 0 <;> simp [hi, hj, Nat.add_assoc]
theorem add_lit (b o n : Nat) : (⟨b, o, none⟩ : Addr).add n = ⟨b, o + n, none⟩ := by
  unfold Addr.add; split <;> simp_all

/-- Of what was there, only blocks in S may have turned. -/
structure Keep (S : Nat → Prop) (w w' : World) : Prop where
  os : w'.os = w.os
  tape : w'.tape = w.tape
  output : w'.output = w.output
  size : w.heap.size ≤ w'.heap.size
  block : ∀ k, k < w.heap.size → ¬ S k → w'.heap[k]? = w.heap[k]?

section
variable {S T : Nat → Prop} {w w' w'' : World}
theorem Keep.refl (S : Nat → Prop) (w : World) : Keep S w w := ⟨rfl, rfl, rfl, Nat.le_refl _, fun _ _ _ => rfl⟩
theorem Keep.trans (h : Keep S w w') (k : Keep T w' w'') (hT : ∀ i, i < w.heap.size → T i → S i) : Keep S w w'' :=
  ⟨k.os.trans h.os, k.tape.trans h.tape, k.output.trans h.output, Nat.le_trans h.size k.size,
    fun i hi hs => (k.block i (Nat.lt_of_lt_of_le hi h.size) (fun ht => hs (hT i hi ht))).trans (h.block i hi hs)⟩
theorem Keep.weaken (h : Keep S w w') (hT : ∀ i, S i → T i) : Keep T w w' := ⟨h.os, h.tape, h.output, h.size, fun i hi hs => h.block i hi fun x => hs (hT i x)⟩
theorem Keep.ofBelow (h : Below w.heap.size w w') : Keep S w w' := ⟨h.os, h.tape, h.output, h.size, fun i hi _ => h.block i hi⟩
theorem Keep.below (h : Keep S w w') (hS : ∀ i, i < w.heap.size → ¬ S i) : Below w.heap.size w w' := ⟨h.os, h.tape, h.output, h.size, fun i hi => h.block i hi (hS i hi)⟩
theorem Keep.belowBy (h : Keep S w w') {B : Nat} (hB : B ≤ w.heap.size) (hS : ∀ i, i < B → ¬ S i) : Below B w w' := ⟨h.os, h.tape, h.output, h.size, fun i hi => h.block i (by omega) (hS i hi)⟩
theorem Keep.alloc (h : Keep S w w') (o : Obj) : Keep S w (w'.alloc o) :=
  ⟨h.os, h.tape, h.output, by simp; exact Nat.le_succ_of_le h.size, fun i hi hs => (Below.heap_alloc w' o i (Nat.lt_of_lt_of_le hi h.size)).trans (h.block i hi hs)⟩
theorem Keep.setCell (h : Keep S w w') {p : Addr} (hp : S p.block ∨ w.heap.size ≤ p.block) (u : Value) : Keep S w (w'.setCell p u) :=
  ⟨h.os, h.tape, h.output, by simpa [World.setCell] using h.size, fun i hi hs => (Below.heap_setCell w' p u i (by
    rintro rfl
    rcases hp with hp | hp
    · exact hs hp
    · omega)).trans (h.block i hi hs)⟩
theorem Keep.drew (h : Keep S w w') : Keep S w w'.drew := ⟨h.os, h.tape, h.output, h.size, h.block⟩
theorem Keep.drewN (h : Keep S w w') (n : Nat) : Keep S w (w'.drewN n) := ⟨h.os, h.tape, h.output, h.size, h.block⟩
theorem Keep.grown {row : Option Nat} (h : Keep S w w') (hg : w'.grownBy w'' row) (hr : ∀ k, row = some k → S k ∨ w.heap.size ≤ k) : Keep S w w'' :=
  ⟨hg.os.trans h.os, hg.tape.trans h.tape, hg.output.trans h.output, Nat.le_trans h.size hg.size, fun i hi hs =>
    (hg.block i (Nat.lt_of_lt_of_le hi h.size) (fun e => by
      rcases hr i e.symm with hp | hp
      · exact hs hp
      · omega)).trans (h.block i hi hs)⟩
theorem Keep.cell (h : Keep S w w') {p : Addr} (hp : p.block < w.heap.size) (hs : ¬ S p.block) : w'.cell? p = w.cell? p := World.cell?_of_block (w := w) (h.block p.block hp hs)
theorem Keep.frozen (h : Keep S w w') {p : Addr} (hp : p.block < w.heap.size) (hs : ¬ S p.block) : w'.frozen? p = w.frozen? p := World.frozen?_of_block (w := w) (h.block p.block hp hs)
theorem grown_keep {row : Option Nat} (hg : w.grownBy w' row) : Keep (fun k => row = some k) w w' := (Keep.refl _ w).grown hg fun _ h => .inl h
theorem grown_below {row : Option Nat} (hg : w.grownBy w' row) {B : Nat} (hB : B ≤ w.heap.size) (hr : ∀ k, row = some k → B ≤ k) : Below B w w' := (Below.refl B w).grown hg hB hr
theorem below_drewN {B : Nat} {a w : World} (h : Below B a w) (n : Nat) : Below B a (w.drewN n) := ⟨h.os, h.tape, h.output, h.size, h.block⟩
end

/-- A block that is known whole; none of its cells is frozen. -/
def Box (w : World) (g : Nat) (t : TypeId) (cs : Array Value) : Prop := w.heap[g]? = some (.cells cs t (0, 0))
section
variable {S : Nat → Prop} {w w' : World} {g : Nat} {t : TypeId} {cs : Array Value}
theorem Box.lt (h : Box w g t cs) : g < w.heap.size := (Array.getElem?_eq_some_iff.1 h).1
theorem Box.heap (h : Box w g t cs) : w.heap[g]? = some (.cells cs t (0, 0)) := h
theorem Box.cell (h : Box w g t cs) (i : Nat) : w.cell? ⟨g, i, none⟩ = cs[i]? := cell_of_row w g i cs t (0, 0) h
theorem Box.frozen (h : Box w g t cs) (i : Nat) : w.frozen? ⟨g, i, none⟩ = false := by
  unfold Box at h
  simp [World.frozen?, h]
theorem Box.new (w : World) (t : TypeId) (cs : Array Value) : Box (w.alloc (.cells cs t)) w.heap.size t cs := heap_alloc_new w _
theorem Box.drew (h : Box w g t cs) : Box w.drew g t cs := h
theorem Box.drewN (h : Box w g t cs) (n : Nat) : Box (w.drewN n) g t cs := h
theorem Box.alloc (h : Box w g t cs) (o : Obj) : Box (w.alloc o) g t cs := (Below.heap_alloc w o g h.lt).trans h
theorem Box.store (h : Box w g t cs) (i : Nat) (u : Value) : Box (w.setCell ⟨g, i, none⟩ u) g t (cs.setIfInBounds i u) := by
  unfold Box at h ⊢
  simp [World.setCell, Array.getElem?_modify, h]
theorem Box.aside (h : Box w g t cs) {p : Addr} (hp : g ≠ p.block) (u : Value) : Box (w.setCell p u) g t cs := (Below.heap_setCell w p u g hp).trans h
theorem Box.below {B : Nat} (h : Box w g t cs) (hb : Below B w w') (hg : g < B) : Box w' g t cs := (hb.block g hg).trans h
theorem Box.kept (h : Box w g t cs) (hk : Keep S w w') (hg : ¬ S g) : Box w' g t cs := (hk.block g h.lt hg).trans h
theorem Box.ne {g' : Nat} {t' : TypeId} {cs' : Array Value} (h : Box w g t cs) (h' : Box w g' t' cs') (hne : t ≠ t') : g ≠ g' := by
  rintro rfl
  unfold Box at h h'
  rw [h] at h'
  injection h' with h'
  injection h' with _ ht
  exact hne ht
end

/-- The cells vs lie at an address (of no cells nothing is said). -/
def Sees (w : World) (A : Option Addr) (vs : List Value) : Prop := ∀ j v, vs[j]? = some v → ∃ a, A = some a ∧ w.cell? (a.add j) = some v
section
variable {S : Nat → Prop} {w w' : World} {A : Option Addr} {vs : List Value}
theorem Sees.nil (w : World) (A : Option Addr) : Sees w A [] := fun j v h => by simp at h
theorem Sees.at {a : Addr} (h : Sees w (some a) vs) (j : Nat) (hj : j < vs.length) : w.cell? (a.add j) = some vs[j] := by
  obtain ⟨a', e, hc⟩ := h j _ (List.getElem?_eq_getElem hj)
  injection e with e
  rw [e]; exact hc
theorem Sees.addr (h : Sees w A vs) (hn : 0 < vs.length) : ∃ a, A = some a := by
  obtain ⟨a, e, _⟩ := h 0 _ (List.getElem?_eq_getElem hn)
  exact ⟨a, e⟩
theorem Sees.keep (h : Sees w A vs) (hk : ∀ a, A = some a → a.block < w.heap.size → ∀ j, w'.cell? (a.add j) = w.cell? (a.add j)) : Sees w' A vs := by
  intro j v hv
  obtain ⟨a, e, hc⟩ := h j v hv
  refine ⟨a, e, (hk a e ?_ j).trans hc⟩
  have := World.block_lt_of_cell? w _ hc
  rw [add_block] at this; exact this
theorem Sees.below (h : Sees w A vs) (hb : Below w.heap.size w w') : Sees w' A vs := h.keep fun a _ hlt j => hb.cell (p := a.add j) (by rw [add_block]; exact hlt)
theorem Sees.kept (h : Sees w A vs) (hk : Keep S w w') (hA : ∀ a, A = some a → ¬ S a.block) : Sees w' A vs :=
  h.keep fun a e hlt j => hk.cell (p := a.add j) (by rw [add_block]; exact hlt) (by rw [add_block]; exact hA a e)
theorem Sees.drew (h : Sees w A vs) : Sees w.drew A vs := h
theorem Sees.drewN (h : Sees w A vs) (n : Nat) : Sees (w.drewN n) A vs := h
theorem Sees.alloc (h : Sees w A vs) (o : Obj) : Sees (w.alloc o) A vs := h.below ((Below.refl _ w).alloc (Nat.le_refl _) o)
theorem Sees.own {base : Nat} {e : TypeId} {size n c : Nat} (h : w.ownsRow base e size (.slice A n c) n vs) : Sees w A vs := by
  intro j u hu
  rcases Nat.eq_zero_or_pos n with h0 | h0
  · have hl := h.1
    have hj : j < vs.length := (List.getElem?_eq_some_iff.1 hu).1
    rw [hl, h0] at hj
    omega
  · obtain ⟨g, cap, hv, _, _⟩ := h.form h0
    injection hv with hA _ _
    subst hA
    exact ⟨_, rfl, h.cells (g := g) rfl j u hu⟩
theorem Sees.drop (h : Sees w A vs) (k : Nat) : Sees w (A.map (·.add k)) (vs.drop k) := by
  intro j v hv
  rw [List.getElem?_drop] at hv
  obtain ⟨a, e, hc⟩ := h _ v hv
  exact ⟨a.add k, by rw [e]; rfl, by rw [add_twice]; exact hc⟩
theorem Sees.take (h : Sees w A vs) (k : Nat) : Sees w A (vs.take k) := by
  intro j v hv
  rw [List.getElem?_take] at hv
  split at hv
  · exact h j v hv
  · cases hv
end

theorem Sees.form {w : World} {A : Option Addr} {vs : List Value} (h : Sees w A vs) (hn : 0 < vs.length) : ∃ b off, A = some ⟨b, off, none⟩ ∧ b < w.heap.size ∧ ∀ j v, vs[j]? = some v → w.cell? ⟨b, off + j, none⟩ = some v := by
  obtain ⟨a, e, hc⟩ := h 0 _ (List.getElem?_eq_getElem hn)
  obtain ⟨b, off, spot⟩ := a
  have hs : spot = none := by
    have h0 : ((⟨b, off, spot⟩ : Addr).add 0) = ⟨b, off, spot⟩ := rfl
    rw [h0] at hc
    cases spot with
    | none => rfl
    | some s =>
      unfold World.cell? at hc
      split at hc <;> simp at hc
  subst hs
  refine ⟨b, off, e, ?_, fun j v hv => ?_⟩
  · have := World.block_lt_of_cell? w _ hc
    rw [add_block] at this; exact this
  · obtain ⟨a', e', hc'⟩ := h j v hv
    rw [e] at e'
    injection e' with e'
    rw [← e', add_lit] at hc'
    exact hc'

theorem bcell {W w1 : World} (hb : Below W.heap.size W w1) : (∀ b o, b < W.heap.size → w1.cell? ⟨b, o, none⟩ = W.cell? ⟨b, o, none⟩) ∧ (∀ b o, b < W.heap.size → w1.frozen? ⟨b, o, none⟩ = W.frozen? ⟨b, o, none⟩) :=
  ⟨fun b o h => hb.cell (p := ⟨b, o, none⟩) h, fun b o h => hb.frozen (p := ⟨b, o, none⟩) h⟩
theorem hid {p : Prop} (h : p) : Hid p := h
theorem ret_int {k : IntKind} {a b : Int} (h : a = b) : Ending.returned (.int k a) = .returned (.int k b) := by rw [h]

theorem own_ne_box {w : World} {base : Nat} {e t : TypeId} {size n : Nat} {v : Value} {xs : List Value} {g : Nat} {cs : Array Value} (h : w.ownsRow base e size v n xs) (hg : Box w g t cs) (hne : e ≠ t) : v.ownBlock ≠ some g := by
  rcases h.2 with ⟨rfl, _⟩ | ⟨g', cap, cur, rfl, _, hh, _⟩
  · simp [Value.ownBlock]
  · intro he
    have : g' = g := by simpa [Value.ownBlock] using he
    subst this
    exact Box.ne (t := e) hh hg hne rfl
theorem Box.grown {w w' : World} {g : Nat} {t : TypeId} {cs : Array Value} {row : Option Nat} (h : Box w g t cs) (hg : w.grownBy w' row) (hne : row ≠ some g) : Box w' g t cs := (hg.block g h.lt (fun e => hne e.symm)).trans h
theorem cells_new (w : World) (cs : Array Value) (t : TypeId) : ∀ j u, cs.toList[j]? = some u → (w.alloc (.cells cs t)).cell? ((⟨w.heap.size, 0, none⟩ : Addr).add j) = some u := by
  intro j u hj
  rw [add_lit, Nat.zero_add, (Box.new w t cs).cell]
  simpa using hj
section
variable {w w' : World} {g : Nat} {t : TypeId} {cs : Array Value}
theorem grown_setCell (w : World) (p : Addr) (u : Value) : w.grownBy (w.setCell p u) (some p.block) :=
  ⟨rfl, rfl, rfl, by simp, fun k _ hne => Below.heap_setCell w p u k (fun e => hne (by rw [e]))⟩
theorem own_aside {w : World} {base : Nat} {e : TypeId} {size n : Nat} {v : Value} {xs : List Value} (h : w.ownsRow base e size v n xs) {p : Addr} (hp : v.ownBlock ≠ some p.block) (u : Value) : (w.setCell p u).ownsRow base e size v n xs :=
  h.kept (grown_setCell w p u) (.inr hp)
theorem own_below {w w' : World} {base : Nat} {e : TypeId} {size n : Nat} {v : Value} {xs : List Value} (h : w.ownsRow base e size v n xs) (hb : Below w.heap.size w w') : w'.ownsRow base e size v n xs :=
  h.kept (row := none) ⟨hb.os, hb.tape, hb.output, hb.size, fun k hk _ => hb.block k hk⟩ (by cases hv : v.ownBlock <;> simp)
theorem own_kept {S : Nat → Prop} {w w' : World} {base : Nat} {e : TypeId} {size n : Nat} {v : Value} {xs : List Value} (h : w.ownsRow base e size v n xs) (hk : Keep S w w') (hS : ∀ g, v.ownBlock = some g → ¬ S g) : w'.ownsRow base e size v n xs := by
  obtain ⟨h1, h2⟩ := h
  refine ⟨h1, ?_⟩
  rcases h2 with h2 | ⟨g, cap, cur, rfl, hg, hh, r⟩
  · exact .inl h2
  · exact .inr ⟨g, cap, cur, rfl, hg, (hk.block g (Array.getElem?_eq_some_iff.1 hh).1 (hS g rfl)).trans hh, r⟩
theorem own_base {w : World} {base b' : Nat} {e : TypeId} {size n : Nat} {v : Value} {xs : List Value} (h : w.ownsRow base e size v n xs) (hb : b' ≤ base) : w.ownsRow b' e size v n xs := by
  obtain ⟨h1, h2⟩ := h
  refine ⟨h1, ?_⟩
  rcases h2 with h2 | ⟨g, cap, cur, rfl, hg, r⟩
  · exact .inl h2
  · exact .inr ⟨g, cap, cur, rfl, by omega, r⟩
theorem Box.row (h : Box w g t cs) (cs' : Array Value) : Box (w.setRow g cs') g t cs' := setRow_heap w g cs cs' t (0, 0) h
theorem Box.rowAside {g' : Nat} (h : Box w g t cs) (hne : g ≠ g') (cs' : Array Value) : Box (w.setRow g' cs') g t cs := (setRow_other w g' g cs' hne).trans h
theorem grown_setRow (w : World) (g : Nat) (cs : Array Value) : w.grownBy (w.setRow g cs) (some g) :=
  ⟨rfl, rfl, rfl, by simp, fun k _ hne => setRow_other w g k cs (fun e => hne (by rw [e]))⟩
end
/-- The form of an owned slice. -/
theorem own_form {w : World} {base : Nat} {e : TypeId} {size n : Nat} {v : Value} {xs : List Value} (h : w.ownsRow base e size v n xs) : ∃ A cap, v = .slice A n cap ∧ Sees w A xs := by
  have h' := h
  rcases h.2 with ⟨rfl, rfl⟩ | ⟨g', cap, cur, rfl, _⟩
  · exact ⟨none, 0, rfl, Sees.own h'⟩
  · exact ⟨_, _, rfl, Sees.own h'⟩
/-- max and min of two numbers, under a name of their own: the walk does not part on them. -/
def mx (a b : Int) : Int := if b > a then b else a
def mn (a b : Int) : Int := if b < a then b else a
section
variable {P : Program} (w : World)
@[go_sem high] theorem run_max_mx (ts : Array TypeId) (t : TypeId) (x y : Int) : (Builtin.max_ ts t #[.int .i64 x, .int .i64 y]).run P w = .ok (.int .i64 (mx x y)) w := run_max_int2 w ts t .i64 .i64 x y
@[go_sem high] theorem run_min_mn (ts : Array TypeId) (t : TypeId) (x y : Int) : (Builtin.min_ ts t #[.int .i64 x, .int .i64 y]).run P w = .ok (.int .i64 (mn x y)) w := run_min_int2 w ts t .i64 .i64 x y
end
theorem mx_eq (a b : Int) : mx a b = max a b := by unfold mx; omega
theorem mn_eq (a b : Int) : mn a b = min a b := by unfold mn; omega
end Go.Proofs.YtlijncmjcecppaaDoor
