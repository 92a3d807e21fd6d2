/- errors.as and errors.As at the target *Errno; fault.Code. -/
import Derived.Test.YtlijncmjcecppaaDoorAs
namespace Go.Proofs.YtlijncmjcecppaaDoor
open Go.RowKit Go.Extern.Stop Go.Stop Go.Extern

theorem a_noAs (v : Value) (w : World) : (Instr.typeAssert (.iface 109 v) 29 123 true).run Tryd.prog w = .ok (.tuple #[.nilIface, .bool false]) w :=
  run_typeAssert_lacksB Tryd.underlying123 (by kernel_rfl) (by kernel_rfl) v _ w
theorem a_hasUnwrap (v : Value) (w : World) : (Instr.typeAssert (.iface 109 v) 29 126 true).run Tryd.prog w = .ok (.tuple #[.iface 109 v, .bool true]) w :=
  run_typeAssert_hasB Tryd.underlying126 (by kernel_rfl) v _ w
theorem a_methodUnwrap (a : Addr) (w : World) : (Go.method 264 109 (.pointer (some a)) "Unwrap").run Tryd.prog w = .ok (97, .pointer (some a)) w := by kernel_rfl
theorem a_aheadUnwrap (a : Addr) (w : World) : (nilAhead 264 109 (.pointer (some a)) "Unwrap").run Tryd.prog w = .ok (some false) w := by kernel_rfl
theorem unwrap_any (b : Nat) (v : Value) (w : World) (h : w.cell? ⟨b, 1, none⟩ = some v) :
    Calls Tryd.prog 97 #[.pointer (some ⟨b, 0, none⟩)] w fun e w' => e = .returned v ∧ w = w' := by
  go_enter Tryd.func97, Tryd.ntmps97
  go_wp2
  go_ret
  exact ⟨rfl, rfl⟩

theorem ErrAt.form {w : World} : ∀ {n : Nat} {v : Value} {e : Int}, ErrAt w n v e → ∃ t x, v = .iface t x
  | 0, _, _, h => ⟨_, _, h⟩
  | _ + 1, _, _, ⟨_, _, _, h1, _⟩ => ⟨_, _, h1⟩
set_option maxHeartbeats 1000000 in
theorem as_chain (n : Nat) (v : Value) (e : Int) (ta : Addr) (pb : Nat) (old : Value) (w : World) (he : ErrAt w n v e)
    (hp : w.cell? ⟨pb, 0, none⟩ = some (.pointer (some ta))) (ht : w.cell? ta = some old) (hf : w.frozen? ta = false) :
    Calls Tryd.prog 56 #[v, .iface 66 (.pointer (some ta)), .agg #[.pointer (some ⟨1, 66, none⟩), .pointer (some ⟨pb, 0, none⟩), .int .u64 150], .iface 118 (.agg #[.pointer (some ⟨1, 32, none⟩)])] w
      fun ev w' => ev = .returned (.bool true) ∧ w'.cell? ta = some (.int .i64 e) ∧ Keep (fun k => k = ta.block) w w' := by
  have h64 := @run_callFunc_extern Tryd.prog 64 _ ReflectliteType.typeOf Tryd.func64 (by kernel_rfl) (by kernel_rfl) (by kernel_rfl) (by kernel_rfl)
  have hAs := @run_callFunc_extern Tryd.prog 99 _ (ReflectliteType.relation "AssignableTo" ReflectliteType.assignableTo) Tryd.func99 (by kernel_rfl) (by kernel_rfl) (by kernel_rfl) (by kernel_rfl)
  have hEl := @run_callFunc_extern Tryd.prog 65 _ (ReflectliteValue.method (ReflectliteValue.valueError "reflectlite.Value.Elem" 0) ReflectliteValue.elem) Tryd.func65 (by kernel_rfl) (by kernel_rfl) (by kernel_rfl) (by kernel_rfl)
  have hVo := @run_callFunc_extern Tryd.prog 53 _ (fun args => ReflectliteValue.unpack (args.getD 0 (.tuple #[]))) Tryd.func53 (by kernel_rfl) (by kernel_rfl) (by kernel_rfl) (by kernel_rfl)
  have hSe := @run_callFunc_extern Tryd.prog 66 _ ReflectliteValue.set Tryd.func66 (by kernel_rfl) (by kernel_rfl) (by kernel_rfl) (by kernel_rfl)
  have tE := a_typeOfE
  have tS := a_typeOfS
  have mA := a_methodAssignableTo
  have asE := a_assignableE
  have asS := a_assignableS
  have vE := a_valueOfE
  have nA := a_noAs
  have hU := a_hasUnwrap
  have mU := a_methodUnwrap
  have nU := a_aheadUnwrap
  obtain ⟨w1, hw1⟩ : ∃ w1, w1 = w.alloc (.cells #[.pointer (some ⟨1, 66, none⟩), .pointer (some ⟨pb, 0, none⟩), .int .u64 150] 100) := ⟨_, rfl⟩
  have hb1 : Below w.heap.size w w1 := by rw [hw1]; exact (Below.refl _ _).alloc (Nat.le_refl _) _
  have hsz : w1.heap.size = w.heap.size + 1 := by rw [hw1]; simp
  have hpl := World.block_lt_of_cell? w _ hp
  have htl := World.block_lt_of_cell? w _ ht
  have he1 : ErrAt w1 n v e := he.below hb1
  have hp1 : w1.cell? ⟨pb, 0, none⟩ = some (.pointer (some ta)) := (hb1.cell hpl).trans hp
  have ht1 : w1.cell? ta = some old := (hb1.cell htl).trans ht
  have hf1 : w1.frozen? ta = false := (hb1.frozen htl).trans hf
  have hx0 : w1.cell? ⟨w.heap.size, 0, none⟩ = some (.pointer (some ⟨1, 66, none⟩)) := by rw [hw1]; simp
  have hx1 : w1.cell? ⟨w.heap.size, 1, none⟩ = some (.pointer (some ⟨pb, 0, none⟩)) := by rw [hw1]; simp
  have hx2 : w1.cell? ⟨w.heap.size, 2, none⟩ = some (.int .u64 150) := by rw [hw1]; simp
  have el := a_elemVP ⟨pb, 0, none⟩ ta w1 hp1
  have st := a_setE ta ⟨w1.heap.size, 0, none⟩ e old (w1.alloc (.cells #[.int .i64 e] 32)) (by simp) (by rw [World.cell?_alloc_lt _ _ ta (by omega)]; exact ht1) (by rw [World.frozen?_alloc_old _ _ ta (by omega)]; exact hf1)
  have hend : ((w1.alloc (.cells #[.int .i64 e] 32)).setCell ta (.int .i64 e)).cell? ta = some (.int .i64 e) := World.cell?_setCell_same _ _ _ (u := old) (by rw [World.cell?_alloc_lt _ _ ta (by omega)]; exact ht1)
  have hkeep : Keep (fun k => k = ta.block) w ((w1.alloc (.cells #[.int .i64 e] 32)).setCell ta (.int .i64 e)) := Keep.setCell (S := fun k => k = ta.block) (p := ta) ((Keep.ofBelow hb1).alloc _) (Or.inl rfl) _
  have HE := hid (And.intro hend hkeep)
  have HW := hid hw1
  have HS := hid hsz
  clear he hp ht hf hw1 hb1 hsz hp1 ht1 hf1 hend hkeep hpl htl
  go_enter Tryd.func56, Tryd.ntmps56
  go_wp2_with fail
  rw [← HW.out]
  go_loopg [0, 11] n (fun g s _ wr => w1 = wr ∧ ErrAt w1 g s e)
  case atStart => exact ⟨rfl, he1⟩
  case round =>
    obtain ⟨rfl, hr⟩ := hrel
    cases gk with
    | zero =>
      obtain rfl := hr
      go_wp2
      go_ret
      exact ⟨rfl, HE.out⟩
    | succ m =>
      obtain ⟨b, s', v', rfl, h2, h3, h4⟩ := hr
      obtain ⟨tx, x, rfl⟩ := h4.form
      have H4 := hid h4
      clear h4
      go_wp2_with (go_at_call 97; refine (unwrap_any b _ _ h3).mono ?_; rintro e w' ⟨rfl, rfl⟩)
      go_roundg m
      case measure => omega
      case rel => exact ⟨rfl, H4.out⟩

/-- What the package-level variable errors.errorType holds. -/
def ErrTypeAt (w : World) : Prop := w.cell? ⟨0, 0, none⟩ = some (.iface 118 (.agg #[.pointer (some ⟨1, 29, none⟩)]))
theorem ErrTypeAt.below {w w' : World} (h : ErrTypeAt w) (hb : Below w.heap.size w w') : ErrTypeAt w' := (hb.cell (World.block_lt_of_cell? w _ h)).trans h

set_option maxHeartbeats 1000000 in
theorem as_any (n : Nat) (v : Value) (e : Int) (ta : Addr) (old : Value) (w : World) (hg : ErrTypeAt w) (he : ErrAt w n v e) (ht : w.cell? ta = some old) (hf : w.frozen? ta = false) :
    Calls Tryd.prog 32 #[v, .iface 66 (.pointer (some ta))] w
      fun ev w' => ev = .returned (.bool true) ∧ w'.cell? ta = some (.int .i64 e) ∧ Keep (fun k => k = ta.block) w w' := by
  have hVo := @run_callFunc_extern Tryd.prog 53 _ (fun args => ReflectliteValue.unpack (args.getD 0 (.tuple #[]))) Tryd.func53 (by kernel_rfl) (by kernel_rfl) (by kernel_rfl) (by kernel_rfl)
  have hTy := @run_callFunc_extern Tryd.prog 54 _ (ReflectliteValue.methodAny (ReflectliteValue.valueError "reflectlite.Value.Type" 0) (fun t _ _ _ => ReflectliteType.toType t)) Tryd.func54 (by kernel_rfl) (by kernel_rfl) (by kernel_rfl) (by kernel_rfl)
  have hNi := @run_callFunc_extern Tryd.prog 55 _ (ReflectliteValue.method (ReflectliteValue.valueError "reflectlite.Value.IsNil" 0) ReflectliteValue.isNil) Tryd.func55 (by kernel_rfl) (by kernel_rfl) (by kernel_rfl) (by kernel_rfl)
  have hKi := @run_callFunc_extern Tryd.prog 88 _ (ReflectliteType.abiMethod fun t => do pure (.int .u8 (← Rtype.kind t))) Tryd.func88 (by kernel_rfl) (by kernel_rfl) (by kernel_rfl) (by kernel_rfl)
  have hEl := @run_callFunc_extern Tryd.prog 101 _ (ReflectliteType.method ReflectliteType.elem) Tryd.func101 (by kernel_rfl) (by kernel_rfl) (by kernel_rfl) (by kernel_rfl)
  have hIm := @run_callFunc_extern Tryd.prog 102 _ (ReflectliteType.relation "Implements" ReflectliteType.implements_) Tryd.func102 (by kernel_rfl) (by kernel_rfl) (by kernel_rfl) (by kernel_rfl)
  have f1 := a_valueOfP
  have f2 := a_typeP
  have mK := a_methodKind
  have mE := a_methodElem
  have mI := a_methodImplements
  have kP := a_kindP
  have kE := a_kindE
  have eP := a_elemP
  have iE := a_implementsE
  have hgl := World.block_lt_of_cell? w _ hg
  have htl := World.block_lt_of_cell? w _ ht
  simp only at hgl
  obtain ⟨tx, x, rfl⟩ := he.form
  obtain ⟨w1, hw1⟩ : ∃ w1, w1 = w.alloc (.cells #[.pointer (some ta)] 66) := ⟨_, rfl⟩
  obtain ⟨w2, hw2⟩ : ∃ w2, w2 = w1.alloc (.cells #[.pointer (some ⟨1, 66, none⟩), .pointer (some ⟨w.heap.size, 0, none⟩), .int .u64 150] 100) := ⟨_, rfl⟩
  have hb1 : Below w.heap.size w w1 := by rw [hw1]; exact (Below.refl _ _).alloc (Nat.le_refl _) _
  have hs1 : w1.heap.size = w.heap.size + 1 := by rw [hw1]; simp
  have hb2 : Below w.heap.size w w2 := by rw [hw2]; exact hb1.alloc (by omega) _
  have hg2 : w2.cell? ⟨0, 0, none⟩ = some (.iface 118 (.agg #[.pointer (some ⟨1, 29, none⟩)])) := (hb2.cell (by exact hgl)).trans hg
  have hc1 : w1.cell? ⟨w.heap.size, 0, none⟩ = some (.pointer (some ta)) := by rw [hw1]; simp
  have hc2 : w2.cell? ⟨w.heap.size, 0, none⟩ = some (.pointer (some ta)) := by rw [hw2, World.cell?_alloc_lt _ _ _ (by simp; omega)]; exact hc1
  have n8 := a_isNilP ⟨w.heap.size, 0, none⟩ ta w2 hc2
  have hx0 : w2.cell? ⟨w1.heap.size, 0, none⟩ = some (.pointer (some ⟨1, 66, none⟩)) := by rw [hw2]; simp
  have hx1 : w2.cell? ⟨w1.heap.size, 1, none⟩ = some (.pointer (some ⟨w.heap.size, 0, none⟩)) := by rw [hw2]; simp
  have hx2 : w2.cell? ⟨w1.heap.size, 2, none⟩ = some (.int .u64 150) := by rw [hw2]; simp
  have hcall := as_chain n _ e ta w.heap.size old w2 (he.below hb2) hc2 ((hb2.cell htl).trans ht) ((hb2.frozen htl).trans hf)
  rw [hs1] at hx0 hx1 hx2
  have C := hid hcall
  have B := hid hb2
  clear hcall hb1 hb2 hs1 he ht hf hc1 hg
  subst hw2
  subst hw1
  go_enter Tryd.func32, Tryd.ntmps32
  go_wp2_with (go_at_call 56; refine C.out.mono ?_; rintro e w' ⟨rfl, hc, hk⟩)
  go_ret
  exact ⟨rfl, hc, (Keep.ofBelow B.out).trans hk fun _ _ h => h⟩
end Go.Proofs.YtlijncmjcecppaaDoor
