import Derived.Test.YtekpmpghbeeeoaaGreatDoorRows
import Derived.Test.YtekpmpghbeeeoaaGreatDoorOpen
import Derived.Test.YtekpmpghbeeeoaaGreatDoorLexLaid
import Derived.Test.YtekpmpghbeeeoaaGreatDoorLexChars
/- The statement of the law LexChars, out of the walk of its function: for every input the call returns true, and each argument reads behind it as it read before. -/
namespace Go.Proofs.YtekpmpghbeeeoaaGreatDoor.lexChars
open Go.ChangeShapes Go.WideShapes Go.ChangeAt Go.RowKit
open Go.ChangeMaps (open_string shut_string)
set_option maxRecDepth 100000 in
theorem lifted (os : Os) (started : os.Started) (H : Type) (enc : TypeId × Value → H) :
    ReturnsInHanded {} Tryz.checked os 8 .any (fun w args => (Rows.lexCharsSpec.pre enc Tryz.prog Tryz.f8 [] false w args ∧ laidMetH Tryz.prog Rows.lexCharsRow.laid w) ∧ sizedMet enc Tryz.prog Tryz.f8 (OpenSpec.ofChange Rows.lexCharsSpec) false w args) (Rows.lexCharsSpec.post enc Tryz.prog Tryz.f8 false true false false) := by
  refine handed_shaped (C := Tryz.checked) (X := fun w _ => laidMetH Tryz.prog Rows.lexCharsRow.laid w) (fun _ _ _ hh h => h.of_heap hh) own started (by kernel_rfl) Tryz.func8
    (witness_ref (enc := enc) (C := Tryz.checked) (os := os) (X := fun w _ => laidMetH Tryz.prog Rows.lexCharsRow.laid w) false (laidWorld8 os) #[.int .i32 0] 8 rfl (by kernel_rfl) (by kernel_rfl) (by kernel_rfl) (by kernel_rfl) (by kernel_rfl) (laid_met8 os _)) ?_
  intro W base args ds gs before hval0 hW hsz0 hL hSh
  have hsz : (DataW.weightsEach Tryz.prog (Tryz.f8.params.toList ++ Rows.lexCharsSpec.plain.varTypes Tryz.prog) (ds ++ gs)).all (· ≤ reachBytes) = true := hsz0
  have hval : ∀ (j : Nat) t v, Tryz.f8.params[j]? = some t → args[j]? = some v → Value.okWide Tryz.prog W .any base t v := hval0
  have hW' := hW
  obtain ⟨p, q, hA0, hV, rfl, hfz, hnd⟩ := hW
  have hA : DataW.TrodAll enc Tryz.prog W 0 (fun _ => true) true Tryz.f8.params.toList args.toList ds p := hA0
  rw [Tryz.params8] at hA hval hsz
  obtain ⟨v0, vs0, d0, ds0, p0, q0, hargs, rfl, rfl, h0, r0⟩ := trodAll_cons hA
  obtain ⟨rfl, rfl, rfl⟩ := trodAll_nil r0
  obtain rfl : args = #[v0] := by cases args; simp_all
  obtain ⟨rfl, rfl⟩ := trodVars_none hV
  have k0 := h0
  obtain ⟨a0, rfl, rfl, rfl, w0⟩ := open_int Tryz.underlying21 (hval 0 21 v0 rfl rfl) h0
  clear hA0 hval0 hsz0 hsz
  refine (lexChars_walk a0 W (lw_of_laid hL hSh) (wf_i32 w0)).mono fun e W' ⟨he, bel⟩ => ?_
  subst he
  exact ⟨_, rfl, _, _, _, [], _, [], hW', trodAll_mk1 (shut_bool Tryz.underlying4 _), (trodAll_cons_mk (shut_int Tryz.underlying21 w0) trodAll_mk0), rfl, bel.frame _, fun h => by cases h⟩
theorem over : Rows.lexCharsRow.holds Tryz.pinned (OpenSpec.ofChange Rows.lexCharsSpec) :=
  OpenClaim.holds_of_wide 8 Tryz.f8 rfl rfl rfl rfl rfl rfl rfl ⟨rfl, rfl, rfl, rfl, rfl⟩ rfl rfl rfl rfl rfl (by kernel_rfl) Tryz.func8 (by kernel_rfl)
    (of_decide_eq_true (by kernel_rfl)) (by unfold Func.isWrapper; first | (rw [if_pos (by decide +kernel)]; kernel_rfl) | (rw [if_neg (by decide +kernel)]; exact ⟨rfl, rfl⟩))
    (fun os started H enc _ => lifted os started H enc)
theorem proved : Rows.LexCharsCardSaid :=
  Claim7.holds_tied_plain_at .later [] [.data, .data, .data, .data, .sentinel, .sentinel, .pinned, .pinned] true (true, "950288e5ee71143e263650c99fd62b49a063965a03b8301e6e196adf6cc6eeb4") true over (fun _ h => by cases h) (by kernel_rfl) (fun _ h => by cases h) lexChars_row_tie rfl ⟨rfl, rfl⟩ (by kernel_rfl) rfl
    (fun f fn hf hfn => by
      obtain rfl : f = 8 := Option.some.inj ((show Tryz.prog.funcNamed "hornbook/hornbooklaw6.LexChars" = some 8 by kernel_rfl).symm.trans hf) |>.symm
      obtain rfl : fn = Tryz.f8 := (Option.some.inj (Tryz.func8.symm.trans hfn)).symm
      refine ⟨by kernel_rfl, fun j t ht => ?_⟩
      have h : Tryz.f8.params.toList.all (fun t => !(Tryz.prog.wantsStandIn t)) = true := by kernel_rfl
      have h2 := List.all_eq_true.1 h t (Array.mem_toList_iff.2 (Array.mem_of_getElem? ht))
      exact (by simpa using h2 : Tryz.prog.wantsStandIn t = false))
    (by kernel_rfl)
#print axioms proved
end Go.Proofs.YtekpmpghbeeeoaaGreatDoor.lexChars
namespace Go.Proofs.YtekpmpghbeeeoaaGreatDoor
theorem lexChars_holds : Rows.LexCharsCardSaid := lexChars.proved
end Go.Proofs.YtekpmpghbeeeoaaGreatDoor

