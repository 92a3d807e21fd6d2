/- ConfigLines: of any crossing and any line the law answers true; the input reads behind the call as before. Condition: the package-level variable errors.errorType is what the program's text lays (tied). -/
import Derived.Test.YtlijncmjcecppaaDoorOpen
import Derived.Test.YtlijncmjcecppaaDoorLawLines
namespace Go.Proofs.YtlijncmjcecppaaDoor
open Go.ChangeShapes Go.WideShapes Go.RowKit
set_option maxRecDepth 100000

theorem configLines_walk {H : Type} {enc : TypeId × Value → H} (W : World) (base : Nat) (args : Array Value) (ds : List (DataW H)) (p : List MemPlace)
    (hval : ∀ (j : Nat) t v, Tryd.f9.params[j]? = some t → args[j]? = some v → Value.okWide Tryd.prog W .any base t v)
    (hA : DataW.TrodAll enc Tryd.prog W 0 (fun _ => true) true Tryd.f9.params.toList args.toList ds p) (hg : ErrTypeAt W) :
    Calls Tryd.prog 9 args W fun e W' => e = .returned (.bool true) ∧ Below W.heap.size W W' := by
  rw [Tryd.params9] at hA hval
  obtain ⟨v0, v1, d0, d1, p0, p1, rfl, rfl, rfl, h0, h1⟩ := trodAll_two hA
  obtain ⟨c, c_A, c_cap, rfl, c_see, c_fits⟩ := open_config (hval 0 39 v0 rfl rfl) h0
  obtain ⟨l, rfl, l_fits⟩ := open_line (hval 1 24 v1 rfl rfl) h1
  exact configLines_any c l c_A c_cap W hg c_see

theorem configLines_lifted (os : Os) (started : os.Started) (H : Type) (enc : TypeId × Value → H) :
    ReturnsInHanded {} Tryd.checked os 9 .any (fun w args => (Rows.configLinesSpec.pre enc Tryd.prog Tryd.f9 [] false w args ∧ laidMetH Tryd.prog laidAll w) ∧ sizedMet enc Tryd.prog Tryd.f9 (OpenSpec.ofChange Rows.configLinesSpec) false w args)
      (Rows.configLinesSpec.post enc Tryd.prog Tryd.f9 false true false false) := by
  refine law_lifted Tryd.func9 (by kernel_rfl) rfl rfl ?_ ?_ os started H enc
    (ChangeSpec.witness_at (enc := enc) (C := Tryd.checked) (os := os) (X := fun w _ => laidMetH Tryd.prog laidAll w) false (laidWorld os) #[.agg #[.slice none 0 0, .int .i64 0, .int .i64 0, .int .i64 0, .int .i64 0, .int .i64 0, .int .i64 0, .int .i64 0, .int .i64 0, .int .i64 0, .int .i64 0], .agg #[.int .i64 0, .int .i64 0, .int .i64 0, .int .i64 0, .int .i64 0]] 8 rfl (by kernel_rfl) (by kernel_rfl) (by kernel_rfl) (by kernel_rfl) (by kernel_rfl) (laidWorld_met os _))
    (fun W base args ds p hval hA hg => configLines_walk W base args ds p hval hA hg)
  · intro t ht
    rw [Tryd.params9] at ht
    simp only [List.mem_cons, List.not_mem_nil, or_false] at ht
    rcases ht with rfl | rfl
    all_goals exact ⟨by kernel_rfl, of_decide_eq_true (by kernel_rfl)⟩
  · intro H ds hds
    rw [Tryd.params9] at hds
    match ds, hds with
    | [d0, d1], _ => rfl

theorem configLines_holds : Rows.ConfigLinesSaid :=
  OpenClaim.holds_of_wide 9 Tryd.f9 rfl rfl rfl rfl rfl rfl rfl ⟨rfl, rfl, rfl, rfl, rfl⟩ rfl rfl rfl rfl rfl (by kernel_rfl) Tryd.func9 (by kernel_rfl)
    (of_decide_eq_true (by kernel_rfl)) (by unfold Func.isWrapper; rw [if_neg (of_decide_eq_false (by kernel_rfl))]; exact ⟨rfl, rfl⟩)
    (fun os started H enc _ => configLines_lifted os started H enc)

theorem configLines_card : Rows.ConfigLinesCardSaid :=
  Claim7.holds_tied_plain_at .later [] [.handle] true (true, "547064edb85859ee3bd88473c107612762eac7ac2779b50e144785093365986b") true
    configLines_holds (fun _ h => by cases h) (by kernel_rfl) (fun _ h => by cases h) configLines_row_tie rfl ⟨rfl, rfl⟩ (by kernel_rfl) rfl
    (fun f fn hf hfn => by
      obtain rfl : f = 9 := Option.some.inj ((show Tryd.prog.funcNamed "crossbuck/crossbucklaw08.ConfigLines" = some 9 by kernel_rfl).symm.trans hf) |>.symm
      obtain rfl : fn = Tryd.f9 := (Option.some.inj (Tryd.func9.symm.trans hfn)).symm
      exact ⟨by kernel_rfl, fun j t ht => by
        rw [Tryd.params9] at ht
        have hm := List.mem_of_getElem? (l := [39, 24]) (i := j) (a := t) (by simpa using ht)
        simp only [List.mem_cons, List.not_mem_nil, or_false] at hm
        rcases hm with rfl | rfl
        all_goals (show _ = _; kernel_rfl)⟩)
    (by kernel_rfl)
#print axioms configLines_card
end Go.Proofs.YtlijncmjcecppaaDoor
