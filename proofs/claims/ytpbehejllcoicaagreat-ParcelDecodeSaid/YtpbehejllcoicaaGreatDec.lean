/- ParcelDecode: for every byte string the call returns true, and it reads afterwards as it did before. There are no conditions. -/
import Derived.Test.YtpbehejllcoicaaGreatRows
import Derived.Test.YtpbehejllcoicaaGreatPme
namespace Go.Proofs.YtpbehejllcoicaaGreat
open Go.ChangeShapes Go.WideShapes Go.RowKit

theorem dec_own : ownKnob Tryz.prog.godebug = none := by kernel_rfl
theorem dec_laidOut : laidOutB Tryz.prog = true := by kernel_rfl
theorem dec_params : Tryz.f4.params.toList = [28] := rfl
set_option maxRecDepth 100000 in
theorem dec_lifted (os : Os) (started : os.Started) (H : Type) (enc : TypeId × Value → H) :
    ReturnsInHanded {} Tryz.checked os 4 .any (Rows.parcelDecodeSpec.pre6 enc Tryz.prog Tryz.f4 Rows.parcelDecodeRow.domain false) (Rows.parcelDecodeSpec.post enc Tryz.prog Tryz.f4 false true false false) := by
  refine returnsInHanded_of_change_sized (C := Tryz.checked) dec_own started (by kernel_rfl) Tryz.func4
    (ChangeSpec.witness6 (enc := enc) (C := Tryz.checked) false ⟨#[], #[.slice none 0 0], []⟩ 8 (by kernel_rfl) (by kernel_rfl) (by kernel_rfl) (by kernel_rfl)) ?_
  intro W base args ds gs before hval hW _ hw _
  have hg : gs = [] := by
    obtain ⟨_, _, _, hV, _⟩ := hW
    exact (trodVars_none hV).1
  subst hg
  have hw1 : (DataW.weightsEach Tryz.prog Tryz.f4.params.toList ds).all (· ≤ reachBytes) = true := by
    have e : Rows.parcelDecodeSpec.plain.varTypes Tryz.prog = [] := rfl
    have hw' : (DataW.weightsEach Tryz.prog (Tryz.f4.params.toList ++ Rows.parcelDecodeSpec.plain.varTypes Tryz.prog) (ds ++ [])).all (· ≤ reachBytes) = true := hw
    rwa [e, List.append_nil, List.append_nil] at hw'
  refine Go.Pm.law_calls (P := Tryz.prog) (n := 20) (tb := 4) dec_laidOut rfl (by kernel_rfl) ?_ rfl ?_ ?_ hval hW hw1
  · intro t ht
    rw [dec_params, List.mem_singleton] at ht
    subst ht
    exact ⟨by kernel_rfl, by kernel_rfl, of_decide_eq_true (by kernel_rfl)⟩
  · intro ds hl
    rw [dec_params] at hl
    match ds, hl with
    | [d], _ => exact ⟨rfl, rfl, rfl⟩
  · rw [dec_params]
    exact Go.Pm.decode_main
theorem dec_named : Tryz.checked.prog.funcNamed Rows.parcelDecodeRow.func = some 4 := by kernel_rfl
theorem dec_joined : joinedFacts Tryz.checked.prog 4 Tryz.f4 Rows.parcelDecodeSpec Rows.parcelDecodeRow = true := by kernel_rfl
theorem dec_inst : Tryz.f4.isInstance Tryz.checked.prog Rows.parcelDecodeRow.origin Rows.parcelDecodeRow.targs := of_decide_eq_true (by kernel_rfl)
theorem dec_wrap : Tryz.f4.isWrapper Tryz.checked.prog Rows.parcelDecodeRow.wrapper Rows.parcelDecodeRow.mainSum := by
  unfold Func.isWrapper
  first
    | (rw [if_pos (by decide +kernel)]; kernel_rfl)
    | (rw [if_neg (by decide +kernel)]; exact ⟨rfl, rfl⟩)
theorem parcelDecode_holds : Rows.ParcelDecodeSaid :=
  OpenClaim.holds_of_wide 4 Tryz.f4 rfl rfl rfl rfl rfl rfl rfl ⟨rfl, rfl, rfl, rfl, rfl⟩ rfl rfl rfl rfl rfl dec_named Tryz.func4 dec_joined dec_inst dec_wrap
    (fun os started H enc _ => dec_lifted os started H enc)
#print axioms parcelDecode_holds
end Go.Proofs.YtpbehejllcoicaaGreat
