/- TopWaterTwoWays holds. Conditions: none. -/
import Derived.Test.YtfcagapficjffaaRows
import Derived.Test.YtfcagapficjffaaTr09

namespace Go.Proofs.Ytfcagapficjffaa
open Go.ChangeShapes Go.WideShapes Go.ChangeAt Go.RowKit Go.Tr

-- seat Ytfcagapficjffaa
set_option maxRecDepth 20000 in
theorem quad_open {x : AV} (h : TyA Try.prog 4 23 x) : ∃ a b c d : Int, AVE 5 x (.agg [i64 a, i64 b, i64 c, i64 d]) ∧ True := by
  simp only [TyA, Try.underlying23] at h
  obtain ⟨xs, rfl, h⟩ := h
  unfold TyC at h
  simp only [Try.underlying23] at h
  obtain ⟨ps, rfl, h⟩ := h
  obtain ⟨x, y, z, u, rfl, h1, h2, h3, h4⟩ := all2_4 h
  obtain ⟨a, rfl, _⟩ := int_open Try.underlying3 h1
  obtain ⟨b, rfl, _⟩ := int_open Try.underlying3 h2
  obtain ⟨c, rfl, _⟩ := int_open Try.underlying3 h3
  obtain ⟨d, rfl, _⟩ := int_open Try.underlying3 h4
  exact ⟨a, b, c, d, ave_agg4 (k := 4) rfl rfl rfl rfl, trivial⟩
set_option maxRecDepth 100000 in
theorem topWaterTwoWays_lifted (os : Os) (started : os.Started) (H : Type) (enc : TypeId × Value → H) :
    ReturnsInHanded {} Try.checked os 3 .any (Rows.topWaterTwoWaysSpec.pre6 enc Try.prog Try.f3 Rows.topWaterTwoWaysRow.domain false) (Rows.topWaterTwoWaysSpec.post enc Try.prog Try.f3 false true false false) := by
  refine returnsInHanded_of_change (C := Try.checked) Try.own started (by kernel_rfl) Try.func3
    (ChangeSpec.witness6 (enc := enc) (C := Try.checked) false ⟨#[], #[.agg #[.int .i64 0, .int .i64 0, .int .i64 0, .int .i64 0]], []⟩ 8 (by kernel_rfl) (by kernel_rfl) (by kernel_rfl) (by kernel_rfl)) ?_
  intro W base args ds gs before hval0 hW hcnd _
  have hval : ∀ (j : Nat) t v, Try.f3.params[j]? = some t → args[j]? = some v → Value.okWide Try.prog W .any base t v := hval0
  have hW' := hW
  obtain ⟨p, q, hA0, hV, rfl, hfz, hnd⟩ := hW
  have hA : DataW.TrodAll enc Try.prog W 0 (fun _ => true) true Try.f3.params.toList args.toList ds p := hA0
  rw [Try.params3] at hA hval
  obtain ⟨v0, d0, rfl, rfl, h0⟩ := trodAll_one hA
  obtain ⟨rfl, rfl⟩ := trodVars_none hV
  obtain ⟨x0, g0, t0⟩ := open_av (m := 4) (q := fun b => b < W.heap.size) (by kernel_rfl) (fun _ h => h) (hval 0 23 v0 rfl rfl) h0
  obtain ⟨n0a, n0b, n0c, n0d, a0, i0⟩ := quad_open t0
  have g0' := AVE_ok 5 a0 g0
  have hlt0 : ∀ x ∈ p, x.block < W.heap.size := fun x hx => hW'.lt x (by simp [hx])
  have hcall := (S3 n0a n0b n0c n0d).2 W (fun b => b < W.heap.size) #[v0] (fun _ h => h) rfl (fun i x hx => by
    match i, hx with
    | 0, hx => cases hx; exact g0')
  refine Calls.mono hcall ?_
  rintro e W' ⟨u, rfl, hb, hu⟩
  cases hu
  refine ⟨_, rfl, post_of_below (pa := p) (pv := []) hW' (fun _ _ _ => trodAll_mk1 (shut_bool Try.underlying4 true)) (fun sp hsp => ?_) (fun _ _ => rfl) (by simp) hb (ok_one (by kernel_rfl) rfl (okWide_bool_mk Try.underlying4 true))⟩
  exact trodAll_mk1 (WideElems.Trod_stays Try.laidOut (by kernel_rfl) (of_decide_eq_true (by kernel_rfl)) h0 (fun x hx => hb.same (hlt0 x hx)) (fun x hx => hsp x (by simp [hx])))

theorem topWaterTwoWays_holds : Rows.TopWaterTwoWaysSaid :=
  OpenClaim.holds_of_wide 3 Try.f3 rfl rfl rfl rfl rfl rfl rfl ⟨rfl, rfl, rfl, rfl, rfl⟩ rfl rfl rfl rfl rfl (by kernel_rfl) Try.func3 (by kernel_rfl)
    (of_decide_eq_true (by kernel_rfl)) (by unfold Func.isWrapper; first | (rw [if_pos (by decide +kernel)]; kernel_rfl) | (rw [if_neg (by decide +kernel)]; exact ⟨rfl, rfl⟩))
    (fun os started H enc _ => topWaterTwoWays_lifted os started H enc)
#print axioms topWaterTwoWays_holds
end Go.Proofs.Ytfcagapficjffaa
