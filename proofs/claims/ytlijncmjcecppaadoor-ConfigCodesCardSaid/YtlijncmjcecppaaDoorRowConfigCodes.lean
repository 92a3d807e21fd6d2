/- ConfigCodes: of any crossing and any bytes the law answers true; the input reads behind the call as before. Condition: the package-level variable errors.errorType is what the program's text lays (tied). -/
import Derived.Test.YtlijncmjcecppaaDoorOpen
import Derived.Test.YtlijncmjcecppaaDoorOpenB
import Derived.Test.YtlijncmjcecppaaDoorLawCodes
namespace Go.Proofs.YtlijncmjcecppaaDoor
open Go.ChangeShapes Go.WideShapes Go.RowKit
set_option maxRecDepth 100000

theorem configCodes_walk {H : Type} {enc : TypeId × Value → H} (W : World) (base : Nat) (args : Array Value) (ds : List (DataW H)) (p : List MemPlace)
    (hval : ∀ (j : Nat) t v, Tryd.f6.params[j]? = some t → args[j]? = some v → Value.okWide Tryd.prog W .any base t v)
    (hA : DataW.TrodAll enc Tryd.prog W 0 (fun _ => true) true Tryd.f6.params.toList args.toList ds p) (hg : ErrTypeAt W) :
    Calls Tryd.prog 6 args W fun e W' => e = .returned (.bool true) ∧ Below W.heap.size W W' := by
  rw [Tryd.params6] at hA hval
  obtain ⟨v0, v1, d0, d1, p0, p1, rfl, rfl, rfl, h0, h1⟩ := trodAll_two hA
  obtain ⟨c, c_A, c_cap, rfl, c_see, c_fits⟩ := open_config (hval 0 39 v0 rfl rfl) h0
  obtain ⟨b, b_see⟩ := open_bytes (hval 1 42 v1 rfl rfl) h1
  exact configCodes_any c b _ c_A c_cap W hg c_see b_see

theorem configCodes_lifted (os : Os) (started : os.Started) (H : Type) (enc : TypeId × Value → H) :
    ReturnsInHanded {} Tryd.checked os 6 .any (fun w args => (Rows.configCodesSpec.pre enc Tryd.prog Tryd.f6 [] false w args ∧ laidMetH Tryd.prog laidAll w) ∧ sizedMet enc Tryd.prog Tryd.f6 (OpenSpec.ofChange Rows.configCodesSpec) false w args)
      (Rows.configCodesSpec.post enc Tryd.prog Tryd.f6 false true false false) := by
  refine law_lifted Tryd.func6 (by kernel_rfl) rfl rfl ?_ ?_ os started H enc
    (ChangeSpec.witness_at (enc := enc) (C := Tryd.checked) (os := os) (X := fun w _ => laidMetH Tryd.prog laidAll w) false (laidWorld os) #[.agg #[.slice none 0 0, .int .i64 0, .int .i64 0, .int .i64 0, .int .i64 0, .int .i64 0, .int .i64 0, .int .i64 0, .int .i64 0, .int .i64 0, .int .i64 0], .slice none 0 0] 8 rfl (by kernel_rfl) (by kernel_rfl) (by kernel_rfl) (by kernel_rfl) (by kernel_rfl) (laidWorld_met os _))
    (fun W base args ds p hval hA hg => configCodes_walk W base args ds p hval hA hg)
  · intro t ht
    rw [Tryd.params6] at ht
    simp only [List.mem_cons, List.not_mem_nil, or_false] at ht
    rcases ht with rfl | rfl
    all_goals exact ⟨by kernel_rfl, of_decide_eq_true (by kernel_rfl)⟩
  · intro H ds hds
    rw [Tryd.params6] at hds
    match ds, hds with
    | [d0, d1], _ => rfl

theorem configCodes_holds : Rows.ConfigCodesSaid :=
  OpenClaim.holds_of_wide 6 Tryd.f6 rfl rfl rfl rfl rfl rfl rfl ⟨rfl, rfl, rfl, rfl, rfl⟩ rfl rfl rfl rfl rfl (by kernel_rfl) Tryd.func6 (by kernel_rfl)
    (of_decide_eq_true (by kernel_rfl)) (by unfold Func.isWrapper; rw [if_neg (of_decide_eq_false (by kernel_rfl))]; exact ⟨rfl, rfl⟩)
    (fun os started H enc _ => configCodes_lifted os started H enc)

theorem configCodes_card : Rows.ConfigCodesCardSaid :=
  Claim7.holds_tied_plain_at .later [] [.handle] true (true, "547064edb85859ee3bd88473c107612762eac7ac2779b50e144785093365986b") true
    configCodes_holds (fun _ h => by cases h) (by kernel_rfl) (fun _ h => by cases h) configCodes_row_tie rfl ⟨rfl, rfl⟩ (by kernel_rfl) rfl
    (fun f fn hf hfn => by
      obtain rfl : f = 6 := Option.some.inj ((show Tryd.prog.funcNamed "crossbuck/crossbucklaw08.ConfigCodes" = some 6 by kernel_rfl).symm.trans hf) |>.symm
      obtain rfl : fn = Tryd.f6 := (Option.some.inj (Tryd.func6.symm.trans hfn)).symm
      exact ⟨by kernel_rfl, fun j t ht => by
        rw [Tryd.params6] at ht
        have hm := List.mem_of_getElem? (l := [39, 42]) (i := j) (a := t) (by simpa using ht)
        simp only [List.mem_cons, List.not_mem_nil, or_false] at hm
        rcases hm with rfl | rfl
        all_goals (show _ = _; kernel_rfl)⟩)
    (by kernel_rfl)
#print axioms configCodes_card
end Go.Proofs.YtlijncmjcecppaaDoor
