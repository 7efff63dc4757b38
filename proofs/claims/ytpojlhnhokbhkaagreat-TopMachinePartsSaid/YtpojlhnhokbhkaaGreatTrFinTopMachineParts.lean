/- TopMachineParts holds. Conditions: none. -/
import Derived.Test.YtpojlhnhokbhkaaGreatRows
import Derived.Test.YtpojlhnhokbhkaaGreatTr13
set_option linter.unusedSectionVars false
set_option linter.unnecessarySimpa false
set_option linter.unusedVariables false
set_option linter.unusedSimpArgs false

-- seat YtpojlhnhokbhkaaGreat
namespace Go.Proofs.YtpojlhnhokbhkaaGreat
open Go.ChangeShapes Go.WideShapes Go.ChangeAt Go.RowKit Go.Tr

set_option maxRecDepth 100000 in
theorem topMachineParts_lifted (os : Os) (started : os.Started) (H : Type) (enc : TypeId × Value → H) :
  ReturnsInHanded {} Tryz.checked os 3 .any (Rows.topMachinePartsSpec.pre6 enc Tryz.prog Tryz.f3 Rows.topMachinePartsRow.domain false) (Rows.topMachinePartsSpec.post enc Tryz.prog Tryz.f3 false true false false) := by
 refine returnsInHanded_of_change (C := Tryz.checked) Tryz.own started (by kernel_rfl) Tryz.func3
  (ChangeSpec.witness6 (enc := enc) (C := Tryz.checked) false ⟨#[],#[.agg #[.slice none 0 0],.agg #[.int .i64 0,.int .i64 0],.agg #[.int .i64 0,.int .i64 0,.int .i64 0,.int .i64 0]],[]⟩ 8 (by kernel_rfl) (by kernel_rfl) (by kernel_rfl) (by kernel_rfl)) ?_
 intro W base args ds gs before hval0 hW hcnd _
 have hval : ∀ (j : Nat) t v,Tryz.f3.params[j]? = some t → args[j]? = some v → Value.okWide Tryz.prog W .any base t v := hval0
 have hW' := hW
 obtain ⟨p,q,hA0,hV,rfl,hfz,hnd⟩ := hW
 have hA : DataW.TrodAll enc Tryz.prog W 0 (fun _=>true) true Tryz.f3.params.toList args.toList ds p := hA0
 rw [Tryz.params3] at hA hval
 obtain ⟨v0,v1,v2,d0,d1,d2,p0,p1,p2,rfl,rfl,rfl,h0,h1,h2⟩ := trodAll_three hA
 obtain ⟨rfl,rfl⟩ := trodVars_none hV
 obtain ⟨x0,g0,t0⟩ := open_av (m := 6) (q := fun b=>b < W.heap.size) (by kernel_rfl) (fun _ h=>h) (hval 0 24 v0 rfl rfl) h0
 obtain ⟨n0,a0,i0⟩ := tbl_open t0
 have g0' := AVF_ok 6 a0 g0
 have hlt0 : ∀ x ∈ p0,x.block < W.heap.size := fun x hx=>hW'.lt x (by simp [hx])
 obtain ⟨x1,g1,t1⟩ := open_av (m := 6) (q := fun b=>b < W.heap.size) (by kernel_rfl) (fun _ h=>h) (hval 1 26 v1 rfl rfl) h1
 obtain ⟨n1,a1,i1⟩ := frac_open t1
 have g1' := AVF_ok 6 a1 g1
 have hlt1 : ∀ x ∈ p1,x.block < W.heap.size := fun x hx=>hW'.lt x (by simp [hx])
 obtain ⟨x2,g2,t2⟩ := open_av (m := 6) (q := fun b=>b < W.heap.size) (by kernel_rfl) (fun _ h=>h) (hval 2 30 v2 rfl rfl) h2
 obtain ⟨n2,a2,i2⟩ := cut_open t2
 have g2' := AVF_ok 6 a2 g2
 have hlt2 : ∀ x ∈ p2,x.block < W.heap.size := fun x hx=>hW'.lt x (by simp [hx])
 have hcall := (S3 n0 i0 n1 i1 n2 i2).2 W (fun b=>b < W.heap.size) #[v0,v1,v2] (fun _ h=>h) gok_none rfl (fun i x hx=>by
  match i,hx with
  | 0,hx=>cases hx; exact g0'
  | 1,hx=>cases hx; exact g1'
  | 2,hx=>cases hx; exact g2')
 refine Calls.mono hcall ?_
 rintro e W' ⟨u,rfl,hb,hu⟩
 cases hu
 refine ⟨_,rfl,post_of_below (pa := p0 ++ (p1 ++ p2)) (pv := []) hW' (fun _ _ _=>trodAll_mk1 (shut_bool Tryz.underlying4 true)) (fun sp hsp=>?_) (fun _ _=>rfl) (by simp) hb (ok_one (by kernel_rfl) rfl (okWide_bool_mk Tryz.underlying4 true))⟩
 exact trodAll_mk3 (WideElems.Trod_stays Tryz.laidOut (by kernel_rfl) (of_decide_eq_true (by kernel_rfl)) h0 (fun x hx=>hb.same (hlt0 x hx)) (fun x hx=>hsp x (by simp [hx])))
  (WideElems.Trod_stays Tryz.laidOut (by kernel_rfl) (of_decide_eq_true (by kernel_rfl)) h1 (fun x hx=>hb.same (hlt1 x hx)) (fun x hx=>hsp x (by simp [hx])))
  (WideElems.Trod_stays Tryz.laidOut (by kernel_rfl) (of_decide_eq_true (by kernel_rfl)) h2 (fun x hx=>hb.same (hlt2 x hx)) (fun x hx=>hsp x (by simp [hx])))

theorem topMachineParts_f1 : (Rows.topMachinePartsRow.inPlace == Tryz.pinned.checked.prog.inPlace 3) = true := by kernel_rfl
theorem topMachineParts_f2 : (Rows.topMachinePartsRow.unfollowed == Tryz.pinned.checked.prog.unfollowed 3) = true := by kernel_rfl
theorem topMachineParts_f3 : (Rows.topMachinePartsRow.recurses == Tryz.pinned.checked.prog.recurses 3) = true := by kernel_rfl
theorem topMachineParts_f4 : (Rows.topMachinePartsRow.named == Tryz.pinned.checked.prog.varsNamed 3) = true := by kernel_rfl
theorem topMachineParts_facts : joinedFacts Tryz.pinned.checked.prog 3 Tryz.f3 Rows.topMachinePartsSpec Rows.topMachinePartsRow = true := by
 unfold joinedFacts
 rw [topMachineParts_f1,topMachineParts_f2,topMachineParts_f3,topMachineParts_f4]
 kernel_rfl
theorem topMachineParts_holds : Rows.TopMachinePartsSaid :=
 OpenClaim.holds_of_wide 3 Tryz.f3 rfl rfl rfl rfl rfl rfl rfl ⟨rfl,rfl,rfl,rfl,rfl⟩ rfl rfl rfl rfl rfl (by kernel_rfl) Tryz.func3 topMachineParts_facts
  (of_decide_eq_true (by kernel_rfl)) (by unfold Func.isWrapper; first | (rw [if_pos (by decide +kernel)]; kernel_rfl) | (rw [if_neg (by decide +kernel)]; exact ⟨rfl,rfl⟩))
  (fun os started H enc _=>topMachineParts_lifted os started H enc)
#print axioms topMachineParts_holds
end Go.Proofs.YtpojlhnhokbhkaaGreat
