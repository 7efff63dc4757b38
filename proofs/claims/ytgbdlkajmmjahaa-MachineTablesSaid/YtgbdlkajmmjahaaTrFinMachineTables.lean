/- MachineTables holds. Conditions: none. -/
import Derived.Test.YtgbdlkajmmjahaaRows
import Derived.Test.YtgbdlkajmmjahaaTr11
set_option linter.unusedSectionVars false
set_option linter.unnecessarySimpa false
set_option linter.unusedVariables false
set_option linter.unusedSimpArgs false

-- seat Ytgbdlkajmmjahaa
namespace Go.Proofs.Ytgbdlkajmmjahaa
open Go.ChangeShapes Go.WideShapes Go.ChangeAt Go.RowKit Go.Tr

set_option maxRecDepth 100000 in
theorem machineTables_lifted (os : Os) (started : os.Started) (H : Type) (enc : TypeId × Value → H) :
    ReturnsInHanded {} Try.checked os 3 .any (Rows.machineTablesSpec.pre6 enc Try.prog Try.f3 Rows.machineTablesRow.domain false) (Rows.machineTablesSpec.post enc Try.prog Try.f3 false true false false) := by
  refine returnsInHanded_of_change (C := Try.checked) Try.own started (by kernel_rfl) Try.func3
    (ChangeSpec.witness6 (enc := enc) (C := Try.checked) false ⟨#[], #[.agg #[.slice none 0 0]], []⟩ 8 (by kernel_rfl) (by kernel_rfl) (by kernel_rfl) (by kernel_rfl)) ?_
  intro W base args ds gs before hval0 hW hcnd _
  have hval : ∀ (j : Nat) t v, Try.f3.params[j]? = some t → args[j]? = some v → Value.okWide Try.prog W .any base t v := hval0
  have hW' := hW
  obtain ⟨p, q, hA0, hV, rfl, hfz, hnd⟩ := hW
  have hA : DataW.TrodAll enc Try.prog W 0 (fun _ => true) true Try.f3.params.toList args.toList ds p := hA0
  rw [Try.params3] at hA hval
  obtain ⟨v0, d0, rfl, rfl, h0⟩ := trodAll_one hA
  obtain ⟨rfl, rfl⟩ := trodVars_none hV
  obtain ⟨x0, g0, t0⟩ := open_av (m := 6) (q := fun b => b < W.heap.size) (by kernel_rfl) (fun _ h => h) (hval 0 24 v0 rfl rfl) h0
  obtain ⟨n0, a0, i0⟩ := tbl_open t0
  have g0' := AVF_ok 6 a0 g0
  have hlt0 : ∀ x ∈ p, x.block < W.heap.size := fun x hx => hW'.lt x (by simp [hx])
  have hcall := (S3 n0 i0).2 W (fun b => b < W.heap.size) #[v0] (fun _ h => h) gok_none rfl (fun i x hx => by
    match i, hx with
    | 0, hx => cases hx; exact g0')
  refine Calls.mono hcall ?_
  rintro e W' ⟨u, rfl, hb, hu⟩
  cases hu
  refine ⟨_, rfl, post_of_below (pa := p) (pv := []) hW' (fun _ _ _ => trodAll_mk1 (shut_bool Try.underlying4 true)) (fun sp hsp => ?_) (fun _ _ => rfl) (by simp) hb (ok_one (by kernel_rfl) rfl (okWide_bool_mk Try.underlying4 true))⟩
  exact trodAll_mk1 (WideElems.Trod_stays Try.laidOut (by kernel_rfl) (of_decide_eq_true (by kernel_rfl)) h0 (fun x hx => hb.same (hlt0 x hx)) (fun x hx => hsp x (by simp [hx])))

theorem machineTables_f1 : (Rows.machineTablesRow.inPlace == Try.pinned.checked.prog.inPlace 3) = true := by kernel_rfl
theorem machineTables_f2 : (Rows.machineTablesRow.unfollowed == Try.pinned.checked.prog.unfollowed 3) = true := by kernel_rfl
theorem machineTables_f3 : (Rows.machineTablesRow.recurses == Try.pinned.checked.prog.recurses 3) = true := by kernel_rfl
theorem machineTables_f4 : (Rows.machineTablesRow.named == Try.pinned.checked.prog.varsNamed 3) = true := by kernel_rfl
theorem machineTables_facts : joinedFacts Try.pinned.checked.prog 3 Try.f3 Rows.machineTablesSpec Rows.machineTablesRow = true := by
  unfold joinedFacts
  rw [machineTables_f1, machineTables_f2, machineTables_f3, machineTables_f4]
  kernel_rfl
theorem machineTables_holds : Rows.MachineTablesSaid :=
  OpenClaim.holds_of_wide 3 Try.f3 rfl rfl rfl rfl rfl rfl rfl ⟨rfl, rfl, rfl, rfl, rfl⟩ rfl rfl rfl rfl rfl (by kernel_rfl) Try.func3 machineTables_facts
    (of_decide_eq_true (by kernel_rfl)) (by unfold Func.isWrapper; first | (rw [if_pos (by decide +kernel)]; kernel_rfl) | (rw [if_neg (by decide +kernel)]; exact ⟨rfl, rfl⟩))
    (fun os started H enc _ => machineTables_lifted os started H enc)
#print axioms machineTables_holds
end Go.Proofs.Ytgbdlkajmmjahaa
