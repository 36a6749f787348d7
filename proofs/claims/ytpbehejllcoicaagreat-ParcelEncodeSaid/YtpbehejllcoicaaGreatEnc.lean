/- ParcelEncode: for every view the call returns true, and the view reads afterwards as it did before. There are no conditions. -/
import Derived.Test.YtpbehejllcoicaaGreatRows
import Derived.Test.YtpbehejllcoicaaGreatPme
namespace Go.Proofs.YtpbehejllcoicaaGreat
open Go.ChangeShapes Go.WideShapes Go.RowKit

theorem enc_own : ownKnob Tryz.prog.godebug = none := by kernel_rfl
theorem enc_laidOut : laidOutB Tryz.prog = true := by kernel_rfl
theorem enc_params : Tryz.f3.params.toList = [25] := rfl
set_option maxRecDepth 100000 in
theorem enc_lifted (os : Os) (started : os.Started) (H : Type) (enc : TypeId × Value → H) :
    ReturnsInHanded {} Tryz.checked os 3 .any (Rows.parcelEncodeSpec.pre6 enc Tryz.prog Tryz.f3 Rows.parcelEncodeRow.domain false) (Rows.parcelEncodeSpec.post enc Tryz.prog Tryz.f3 false true false false) := by
  refine returnsInHanded_of_change_sized (C := Tryz.checked) enc_own started (by kernel_rfl) Tryz.func3
    (ChangeSpec.witness6 (enc := enc) (C := Tryz.checked) false ⟨#[], #[.agg #[.slice none 0 0, .slice none 0 0]], []⟩ 8 (by kernel_rfl) (by kernel_rfl) (by kernel_rfl) (by kernel_rfl)) ?_
  intro W base args ds gs before hval hW _ hw _
  have hg : gs = [] := by
    obtain ⟨_, _, _, hV, _⟩ := hW
    exact (trodVars_none hV).1
  subst hg
  have hw1 : (DataW.weightsEach Tryz.prog Tryz.f3.params.toList ds).all (· ≤ reachBytes) = true := by
    have e : Rows.parcelEncodeSpec.plain.varTypes Tryz.prog = [] := rfl
    have hw' : (DataW.weightsEach Tryz.prog (Tryz.f3.params.toList ++ Rows.parcelEncodeSpec.plain.varTypes Tryz.prog) (ds ++ [])).all (· ≤ reachBytes) = true := hw
    rwa [e, List.append_nil, List.append_nil] at hw'
  refine Go.Pm.law_calls (P := Tryz.prog) (n := 20) (tb := 4) enc_laidOut rfl (by kernel_rfl) ?_ rfl ?_ ?_ hval hW hw1
  · intro t ht
    rw [enc_params, List.mem_singleton] at ht
    subst ht
    exact ⟨by kernel_rfl, by kernel_rfl, of_decide_eq_true (by kernel_rfl)⟩
  · intro ds hl
    rw [enc_params] at hl
    match ds, hl with
    | [d], _ => exact ⟨rfl, rfl, rfl⟩
  · rw [enc_params]
    exact Go.Pm.encode_main
theorem enc_named : Tryz.checked.prog.funcNamed Rows.parcelEncodeRow.func = some 3 := by kernel_rfl
theorem enc_joined : joinedFacts Tryz.checked.prog 3 Tryz.f3 Rows.parcelEncodeSpec Rows.parcelEncodeRow = true := by kernel_rfl
theorem enc_inst : Tryz.f3.isInstance Tryz.checked.prog Rows.parcelEncodeRow.origin Rows.parcelEncodeRow.targs := of_decide_eq_true (by kernel_rfl)
theorem enc_wrap : Tryz.f3.isWrapper Tryz.checked.prog Rows.parcelEncodeRow.wrapper Rows.parcelEncodeRow.mainSum := by
  unfold Func.isWrapper
  first
    | (rw [if_pos (by decide +kernel)]; kernel_rfl)
    | (rw [if_neg (by decide +kernel)]; exact ⟨rfl, rfl⟩)
theorem parcelEncode_holds : Rows.ParcelEncodeSaid :=
  OpenClaim.holds_of_wide 3 Tryz.f3 rfl rfl rfl rfl rfl rfl rfl ⟨rfl, rfl, rfl, rfl, rfl⟩ rfl rfl rfl rfl rfl enc_named Tryz.func3 enc_joined enc_inst enc_wrap
    (fun os started H enc _ => enc_lifted os started H enc)
#print axioms parcelEncode_holds
end Go.Proofs.YtpbehejllcoicaaGreat
