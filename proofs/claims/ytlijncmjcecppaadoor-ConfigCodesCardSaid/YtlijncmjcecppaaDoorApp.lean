/- A row that is new since a world (Out); append of one element, and of a row of bytes, onto it. -/
import Derived.Test.YtlijncmjcecppaaDoorClone
import Derived.ArgAppend
import Derived.Laws.IdiomStrings
import Derived.Lib.SlBytesConst
namespace Go.Proofs.YtlijncmjcecppaaDoor
open Go.RowKit

/-- What a slice type's elements are. -/
structure EInfo (t e : TypeId) (size bytes : Nat) : Prop where
  und : Tryd.prog.underlying t = some (.slice e)
  inf : ∃ i z, Tryd.prog.info? e = some i ∧ i.zero = some z ∧ i.size = size ∧ i.bytes = bytes ∧ z.cells.size = size
  pos : 0 < size
theorem eiByte : EInfo 42 5 1 1 := ⟨Tryd.underlying42, by obtain ⟨i, a, b, c, d⟩ := info_parts infoByte; exact ⟨i, _, a, b, c, d, rfl⟩, by decide⟩

/-- A slice that is new since w0, of which all else is as it was. -/
def Out (w0 w : World) (e : TypeId) (size : Nat) (v : Value) (n : Nat) (xs : List Value) : Prop := w.ownsRow w0.heap.size e size v n xs ∧ Below w0.heap.size w0 w
section
variable {w0 w w' : World} {e : TypeId} {size n : Nat} {v : Value} {xs : List Value}
theorem Out.own (h : Out w0 w e size v n xs) : w.ownsRow w0.heap.size e size v n xs := h.1
theorem Out.bel (h : Out w0 w e size v n xs) : Below w0.heap.size w0 w := h.2
theorem Out.le (h : Out w0 w e size v n xs) : w0.heap.size ≤ w.heap.size := h.2.size
theorem Out.sees {A : Option Addr} {k c : Nat} (h : Out w0 w e size (.slice A k c) n xs) : Sees w A xs := by
  obtain ⟨A', c', hv, hs⟩ := own_form h.1
  injection hv with h1 _ _
  rw [h1]; exact hs
theorem Out.below (h : Out w0 w e size v n xs) (hb : Below w.heap.size w w') : Out w0 w' e size v n xs := ⟨own_below h.1 hb, h.2.trans (hb.mono h.2.size)⟩
theorem Out.none (w : World) (e : TypeId) (size : Nat) : Out w w e size (.slice none 0 0) 0 [] := ⟨World.ownsRow_nil _ _ _ _, Below.refl _ _⟩
theorem Out.none' (hb : Below w0.heap.size w0 w) (e : TypeId) (size : Nat) : Out w0 w e size (.slice .none 0 0) 0 [] := ⟨World.ownsRow_nil _ _ _ _, hb⟩
/-- A slice that was built whole. -/
theorem Out.fresh (hb : Below w0.heap.size w0 w) (cs : Array Value) (e : TypeId) (size n : Nat) (hs : cs.size = n * size) (hn : n ≤ 1000000000) : Out w0 (w.alloc (.cells cs e)) e size (.slice (some ⟨w.heap.size, 0, .none⟩) n n) n cs.toList :=
  ⟨⟨by simp [hs], .inr ⟨w.heap.size, n, cs, rfl, hb.size, heap_alloc_new w _, Nat.le_refl _, by unfold maxLen; omega, hs, by rw [List.take_of_length_le (by simp [hs])]⟩⟩, hb.alloc hb.size _⟩
theorem Out.rebase {w1 w2 : World} {e' : TypeId} {size' n' : Nat} {v' : Value} {xs' : List Value} (h : Out w0 w1 e size v n xs) (k : Out w1 w2 e' size' v' n' xs') : Out w0 w2 e' size' v' n' xs' :=
  ⟨own_base k.1 h.le, h.2.trans (k.2.mono h.le)⟩
theorem Out.rebaseB {w1 w2 : World} {e' : TypeId} {size' n' : Nat} {v' : Value} {xs' : List Value} (h : Below w0.heap.size w0 w1) (k : Out w1 w2 e' size' v' n' xs') : Out w0 w2 e' size' v' n' xs' :=
  ⟨own_base k.1 h.size, h.trans (k.2.mono h.size)⟩
theorem Out.form (h : Out w0 w e size v n xs) : ∃ A cap, v = .slice A n cap ∧ Sees w A xs := own_form h.1
end

theorem Keep.set (w : World) (k i : Nat) (u : Value) : Keep (fun j => j = k) w (w.setCell ⟨k, i, none⟩ u) := (Keep.refl (fun j => j = k) w).setCell (p := ⟨k, i, none⟩) (.inl rfl) u
theorem grown_alloc (w : World) (o : Obj) (row : Option Nat) : w.grownBy (w.alloc o) row := ⟨rfl, rfl, rfl, by simp, fun k hk _ => Below.heap_alloc w o k hk⟩

section
variable {ops : Array Oper} {rest : List Oper} {o : Oper} {a : Act} {Q : Exit → Act → World → Prop} {w0 w : World} {t e : TypeId} {size bytes n : Nat} {v : Value} {xs : List Value}
/-- append of one element. -/
theorem wp_app1 (E : EInfo t e size bytes) (hgd : o.guard = none) (s x : Operand) (ho : o.op = .call { callee := .builtin .append, args := #[s, x], argTypes := #[t, t] })
    (H : Hid (Out w0 w e size v n xs)) (cs : Array Value) (hs : a.eval s = v) {g : Nat} (hx : a.eval x = .slice (some ⟨g, 0, none⟩) 1 1) (hgw : g = w.heap.size)
    (hcs : cs.size = size) (h1 : cs.toList.all (fun u => u.oneCell') = true) (hb : (n + 1) * bytes ≤ 140737488355328) (hn : n < 1000000000000000)
    (h : ∀ A' cap' w', Hid (Out w0 w' e size (.slice A' (n + 1) cap') (n + 1) (xs ++ cs.toList)) → Hid (w.grownBy w' v.ownBlock) → wpList Tryd.prog ops Q rest (a.put o.dst (.slice A' (n + 1) cap')) w') :
    wpList Tryd.prog ops Q (o :: rest) a (w.alloc (.cells cs e)) := by
  subst hgw
  obtain ⟨i, z, hi, hz, hs1, hs2, hzs⟩ := E.inf
  have H' := H.out
  have hsz := H'.le
  refine wpList_append_own_at _ hgd s x t ho w0.heap.size e i z size bytes E.und hi hz hs1 hs2 hzs E.pos v n xs hs (H'.1.alloc _) _ 1 1 cs.toList hx (by simp [hcs]) (cells_new _ _ _) (List.all_eq_true.1 h1) ?_ hb (by simp; omega) ?_
  · unfold maxLen; omega
  · intro v' w' hown hg _ _
    obtain ⟨A', cap', rfl, _⟩ := own_form hown
    have hg' : w.grownBy w' v.ownBlock := (grown_alloc w _ _).trans hg
    exact h A' cap' w' ⟨hown, (H'.2.grown hg' hsz (fun k hk => (H'.1.lt k hk).1))⟩ hg'

/-- append of m elements. -/
theorem wp_appN (E : EInfo t e size bytes) (hgd : o.guard = none) (s x : Operand) (ho : o.op = .call { callee := .builtin .append, args := #[s, x], argTypes := #[t, t] })
    (H : Hid (Out w0 w e size v n xs)) (m : Nat) (cs : Array Value) (hs : a.eval s = v) {g : Nat} (hx : a.eval x = .slice (some ⟨g, 0, none⟩) m m) (hgw : g = w.heap.size)
    (hcs : cs.size = m * size) (h1 : cs.toList.all (fun u => u.oneCell') = true) (hb : (n + m) * bytes ≤ 140737488355328) (hn : n + m < 1000000000000000)
    (h : ∀ A' cap' w', Hid (Out w0 w' e size (.slice A' (n + m) cap') (n + m) (xs ++ cs.toList)) → Hid (w.grownBy w' v.ownBlock) → wpList Tryd.prog ops Q rest (a.put o.dst (.slice A' (n + m) cap')) w') :
    wpList Tryd.prog ops Q (o :: rest) a (w.alloc (.cells cs e)) := by
  subst hgw
  obtain ⟨i, z, hi, hz, hs1, hs2, hzs⟩ := E.inf
  have H' := H.out
  have hsz := H'.le
  refine wpList_append_own_at _ hgd s x t ho w0.heap.size e i z size bytes E.und hi hz hs1 hs2 hzs E.pos v n xs hs (H'.1.alloc _) _ m m cs.toList hx (by simp [hcs]) (cells_new _ _ _) (List.all_eq_true.1 h1) ?_ hb (by simp; omega) ?_
  · unfold maxLen; omega
  · intro v' w' hown hg _ _
    obtain ⟨A', cap', rfl, _⟩ := own_form hown
    have hg' : w.grownBy w' v.ownBlock := (grown_alloc w _ _).trans hg
    exact h A' cap' w' ⟨hown, (H'.2.grown hg' hsz (fun k hk => (H'.1.lt k hk).1))⟩ hg'

/-- append of one element onto a slice that is full. -/
theorem wp_grow1 (E : EInfo t e size bytes) (hgd : o.guard = none) (s x : Operand) (ho : o.op = .call { callee := .builtin .append, args := #[s, x], argTypes := #[t, t] })
    (H : Hid (Below w0.heap.size w0 w)) (A : Option Addr) (olds : List Value) (hsee : Hid (Sees w A olds)) (cs : Array Value) (hs : a.eval s = .slice A n n) (hA : A = none → n = 0) {g : Nat} (hx : a.eval x = .slice (some ⟨g, 0, none⟩) 1 1) (hgw : g = w.heap.size)
    (hcs : cs.size = size) (h1 : cs.toList.all (fun u => u.oneCell') = true) (hlo : olds.length = n * size) (hb : (n + 1) * bytes ≤ 140737488355328) (hn : n < 1000000000000000)
    (h : ∀ A' cap' w', Hid (Out w0 w' e size (.slice A' (n + 1) cap') (n + 1) (olds ++ cs.toList)) → wpList Tryd.prog ops Q rest (a.put o.dst (.slice A' (n + 1) cap')) w') :
    wpList Tryd.prog ops Q (o :: rest) a (w.alloc (.cells cs e)) := by
  subst hgw
  obtain ⟨i, z, hi, hz, hs1, hs2, hzs⟩ := E.inf
  refine wpList_append_grows _ hgd s x t ho e i z size bytes E.und hi hz hs1 hs2 hzs E.pos A n n olds hs (fun h => ⟨hA h, hA h⟩) hlo ?_ _ 1 1 cs.toList hx (by simp [hcs]) (cells_new _ _ _) (List.all_eq_true.1 h1) (Nat.lt_succ_self n) ?_ hb ?_
  · intro b hb' j u hj
    subst hb'
    exact (hsee.out.alloc _).some j u hj
  · unfold maxLen; omega
  · intro v' w' hown hg
    obtain ⟨A', cap', rfl, _⟩ := own_form hown
    have hg' : w.grownBy w' none := (grown_alloc w _ _).trans hg
    exact h A' cap' w' ⟨own_base hown (by have := H.out.size; simp; omega), H.out.grown hg' H.out.size (fun k hk => by cases hk)⟩

/-- append of a row of cells. -/
theorem wp_appRow (E : EInfo t e size bytes) (hgd : o.guard = none) (s x : Operand) (ho : o.op = .call { callee := .builtin .append, args := #[s, x], argTypes := #[t, t] })
    (H : Hid (Out w0 w e size v n xs)) (ad : Addr) (m c : Nat) (news : List Value) (hs : a.eval s = v) (hx : a.eval x = .slice (some ad) m c)
    (hl : news.length = m * size) (hnews : Sees w (some ad) news) (h1 : ∀ u ∈ news, u.oneCell' = true) (hb : (n + m) * bytes ≤ 140737488355328) (hn : n + m < 1000000000000000)
    (h : ∀ A' cap' w', Hid (Out w0 w' e size (.slice A' (n + m) cap') (n + m) (xs ++ news)) → Hid (w.grownBy w' v.ownBlock) → wpList Tryd.prog ops Q rest (a.put o.dst (.slice A' (n + m) cap')) w') :
    wpList Tryd.prog ops Q (o :: rest) a w := by
  obtain ⟨i, z, hi, hz, hs1, hs2, hzs⟩ := E.inf
  have H' := H.out
  have hsz := H'.le
  refine wpList_append_own_at _ hgd s x t ho w0.heap.size e i z size bytes E.und hi hz hs1 hs2 hzs E.pos v n xs hs H'.1 ad m c news hx hl hnews.some h1 ?_ hb hsz ?_
  · unfold maxLen; omega
  · intro v' w' hown hg _ _
    obtain ⟨A', cap', rfl, _⟩ := own_form hown
    exact h A' cap' w' ⟨hown, (H'.2.grown hg hsz (fun k hk => (H'.1.lt k hk).1))⟩ hg

/-- A type whose values are rows of n cells. -/
def SInfo (ty : TypeId) (n : Nat) : Prop := ∃ d, Tryd.prog.underlying ty = some d ∧ (match d with | .struct _ | .array _ _ => true | _ => false) = true ∧ (Tryd.prog.info? ty).map (·.size) = some n
/-- A whole row is loaded. -/
theorem wp_loadRow (hgd : o.guard = none) (ty : TypeId) (x : Operand) (ho : o.op = .load ty x) {g : Nat} {t' : TypeId} {cs : Array Value} (H : Hid (Box w g t' cs)) (hi : SInfo ty cs.size) (hx : a.eval x = .pointer (some ⟨g, 0, none⟩))
    (h : wpList Tryd.prog ops Q rest (a.put o.dst (.agg cs)) w) : wpList Tryd.prog ops Q (o :: rest) a w := by
  obtain ⟨d, h1, h2, h3⟩ := hi
  exact wpList_load_row hgd ty x ho g hx t' cs _ d H.out.heap h1 (by cases d <;> exact h2) h3 h
/-- A whole row is stored. -/
theorem wp_storeRow (hgd : o.guard = none) (ty : TypeId) (x y : Operand) (ho : o.op = .store ty x y) {g : Nat} {t' : TypeId} {old : Array Value} (H : Hid (Box w g t' old)) (cs : Array Value) (hi : SInfo ty cs.size) (hold : old.size = cs.size) (hx : a.eval x = .pointer (some ⟨g, 0, none⟩)) (hy : a.eval y = .agg cs)
    (h1 : cs.toList.all (fun u => u.oneCell') = true) (h : wpList Tryd.prog ops Q rest (a.put o.dst undef) (w.setRow g cs)) : wpList Tryd.prog ops Q (o :: rest) a w := by
  obtain ⟨d, _, _, h3⟩ := hi
  exact wpList_store_row hgd ty x y ho g cs hx hy t' old H.out.heap h3 hold (by rw [← Array.all_toList]; exact h1) h
theorem Box.setRow_same {g : Nat} {t : TypeId} {cs : Array Value} (h : Box w g t cs) : w.setRow g cs = w := by
  have e : (w.setRow g cs).heap = w.heap := by
    apply Array.ext_getElem?
    intro i
    by_cases hi : i = g
    · subst hi
      rw [setRow_heap w i cs cs t (0, 0) h]
      exact h.symm
    · exact setRow_other w g i cs hi
  have e2 : w.setRow g cs = { w with heap := (w.setRow g cs).heap } := rfl
  rw [e2, e]
/-- A whole row is stored that lies there. -/
theorem wp_storeSame (hgd : o.guard = none) (ty : TypeId) (x y : Operand) (ho : o.op = .store ty x y) {g : Nat} {t' : TypeId} {cs : Array Value} (H : Hid (Box w g t' cs)) (hi : SInfo ty cs.size) (hx : a.eval x = .pointer (some ⟨g, 0, none⟩)) (hy : a.eval y = .agg cs)
    (h1 : cs.toList.all (fun u => u.oneCell') = true) (h : wpList Tryd.prog ops Q rest (a.put o.dst undef) w) : wpList Tryd.prog ops Q (o :: rest) a w := by
  refine wp_storeRow hgd ty x y ho H cs hi rfl hx hy h1 ?_
  rw [H.out.setRow_same]
  exact h
theorem results_box2 {fn : Func} {p q : Tmp} {ty : TypeId} (h : fn.results = #[.cell p ty, .tmp q]) {tmps : Array Value} {g : Nat} {t' : TypeId} {cs : Array Value} (hp : tmps.getD p undef = .pointer (some ⟨g, 0, none⟩)) (H : Box w g t' cs) (hi : SInfo ty cs.size) {v : Value} (hq : tmps.getD q undef = v) : (results fn tmps).run Tryd.prog w = .ok (.tuple #[.agg cs, v]) w := by
  obtain ⟨d, h1, h2, h3⟩ := hi
  have hp' : tmps[p]?.getD undef = .pointer (some ⟨g, 0, none⟩) := by simpa using hp
  have hq' : tmps[q]?.getD undef = v := by simpa using hq
  simp [results, h, hp', hq', asAddr, run_loadVar_row w g t' ty cs _ d H.heap h1 (by cases d <;> exact h2) h3]
/-- A result that lies in a block. -/
theorem results_box {fn : Func} {p : Tmp} {ty : TypeId} (h : fn.results = #[.cell p ty]) {tmps : Array Value} {g : Nat} {t' : TypeId} {cs : Array Value} (hp : tmps.getD p undef = .pointer (some ⟨g, 0, none⟩)) (H : Box w g t' cs) (hi : SInfo ty cs.size) : (results fn tmps).run Tryd.prog w = .ok (.agg cs) w := by
  obtain ⟨d, h1, h2, h3⟩ := hi
  exact results_cell_row h tmps w g t' cs _ d hp H.heap h1 (by cases d <;> exact h2) h3
end
end Go.Proofs.YtlijncmjcecppaaDoor
