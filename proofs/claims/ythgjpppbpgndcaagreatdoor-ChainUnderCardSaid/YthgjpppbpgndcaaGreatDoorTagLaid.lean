import Derived.Test.YthgjpppbpgndcaaGreatDoorOpen
import Derived.Test.YthgjpppbpgndcaaGreatDoorTagCalls
import Derived.Test.YthgjpppbpgndcaaGreatDoorTie
import Derived.Test.YthgjpppbpgndcaaGreatDoorCards
import Derived.Lib.LaidIn
import Derived.Lib.LaidU8T
import Derived.Lib.LaidCaseMet
import Derived.Handed
import Derived.LaidHandle
import Derived.LaidLaws
import Derived.SevenTiedAt
import Derived.Shelf.Vars
/- The tables that the Tag laws list; a world that meets the condition; the library's own number. -/
namespace Go.Proofs.YthgjpppbpgndcaaGreatDoor
open Go.ChangeShapes Go.WideShapes Go.ChangeAt Go.RowKit Go.Shelf Go.Proofs.YthgjpppbpgndcaaGreatDoorW Go.Proofs.YthgjpppbpgndcaaGreatDoorW.PrintWords

theorem first_is3 : (Rows.laid_unicode_utf8_first : DataW Unit) = Lib.firstData := by kernel_rfl
theorem accept_is3 : (Rows.laid_unicode_utf8_acceptRanges : DataW Unit) = Lib.acceptData := by kernel_rfl
set_option maxRecDepth 100000 in
theorem case_is3 : (Rows.laid_unicode_CaseRanges : DataW Unit) = Lib.caseData := by kernel_rfl
abbrev laid3 : List (String × DataW Unit) := [("unicode/utf8.acceptRanges", Rows.laid_unicode_utf8_acceptRanges), ("unicode.CaseRanges", Rows.laid_unicode_CaseRanges), ("unicode/utf8.first", Rows.laid_unicode_utf8_first)]

/-- The library's own number, out of the world's shape. -/
theorem ml_of_shaped {W : World} (h : W.ShapedOpen Tryz.prog) : ML W :=
  cell_of_shapedOpen_int (g := 1) (t := 3) (zero := #[.int .i64 0]) h (of_decide_eq_true (by kernel_rfl)) (by kernel_rfl) rfl (by kernel_rfl) (by kernel_rfl) Tryz.underlying3

/-- The wrap of a statement that lists laid variables, the world's shape kept. -/
theorem handed_shaped {H : Type} {enc : TypeId × Value → H} {a : Assume} {C : Checked} {os : Os} {f : FuncId} {fn : Func} {s : ChangeSpec} {conds : List PathCond} {apart fresh handsOn again : Bool} {X : World → Array Value → Prop}
    (hX : ∀ (w w' : World) (args : Array Value), w.heap = w'.heap → X w args → X w' args)
    (own : ownKnob C.prog.godebug = none) (started : os.Started) (noInit : C.prog.inits.idxOf? f = none) (hfn : C.prog.funcs[f]? = some fn)
    (witness : ∃ (w : World) (tape : Tape) (i : Input), w.os = os ∧ (w.forCall tape i).Shaped C.prog ∧ i.vars = [] ∧ Input.okWide C.prog (w.forCall tape i) .any w.heap.size f i ∧
      ((s.pre enc C.prog fn conds apart (w.forCall tape i).memory i.args ∧ X (w.forCall tape i).memory i.args) ∧ sizedMet enc C.prog fn (OpenSpec.ofChange s) apart (w.forCall tape i).memory i.args) ∧ a.holds C.prog (lone (Frame.enter C.prog f i.args .normal) [] (w.forCall tape i)))
    (contract : ∀ (W : World) (base : Nat) (args : Array Value) (ds gs : List (DataW H)) (before : List MemPlace),
      (∀ (j : Nat) t v, fn.params[j]? = some t → args[j]? = some v → Value.okWide C.prog W .any base t v) →
      DataW.Whole enc C.prog fn.params.toList s.vars apart W args.toList ds gs before →
      (DataW.weightsEach C.prog (fn.params.toList ++ s.plain.varTypes C.prog) (ds ++ gs)).all (· ≤ reachBytes) = true → X W args → W.ShapedOpen C.prog →
      Calls C.prog f args W fun e W' => ∃ v, e = .returned v ∧ s.post enc C.prog fn apart fresh handsOn again W args v W') :
    ReturnsInHanded a C os f .any (fun w args => (s.pre enc C.prog fn conds apart w args ∧ X w args) ∧ sizedMet enc C.prog fn (OpenSpec.ofChange s) apart w args) (s.post enc C.prog fn apart fresh handsOn again) := by
  refine returnsInHanded_of_calls own started noInit witness ?_
  intro w tape i _ hsh _ hok hpre _
  obtain ⟨_, _, _, fn', hfn', _, _, _, _, hval⟩ := hok
  obtain rfl : fn' = fn := Option.some.inj (hfn'.symm.trans hfn)
  obtain ⟨⟨⟨ds, gs, before, hw, hc⟩, hx⟩, hz⟩ := hpre
  have hw' := DataW.Whole.of_heap (w' := w.forCall tape i) (by rfl) hw
  refine (contract (w.forCall tape i) w.heap.size i.args ds gs before hval hw' (hz.weights hw) (hX _ _ _ (by rfl) hx) hsh).mono fun e W' ⟨v, he, hp⟩ => ?_
  subst he
  exact ChangeSpec.post_blind hp

theorem witness_ref {H : Type} {enc : TypeId × Value → H} {C : Checked} {os : Os} {f : FuncId} {fn : Func} {s : ChangeSpec} {conds : List PathCond} {apart : Bool} {X : World → Array Value → Prop} (modest : Bool) (w0 : World) (args : Array Value) (fuel : Nat) (hos : w0.os = os)
    (hv : (w0.forCall (fun _ _ => 0) ⟨#[], args, []⟩).variablesRefB C.prog = true)
    (hr : ((w0.forCall (fun _ _ => 0) ⟨#[], args, []⟩).heap.toList.drop C.prog.globals.size).take ((begin C.prog (fun _ _ => 0) default).world.heap.size - C.prog.globals.size) = (begin C.prog (fun _ _ => 0) default).world.heap.toList.drop C.prog.globals.size)
    (hok : Input.okWideB C.prog (w0.forCall (fun _ _ => 0) ⟨#[], args, []⟩) f ⟨#[], args, []⟩ = true)
    (hpre : s.preB enc C.prog fn conds apart (w0.forCall (fun _ _ => 0) ⟨#[], args, []⟩).memory args fuel = true)
    (hsz : s.sizedB enc C.prog fn apart (w0.forCall (fun _ _ => 0) ⟨#[], args, []⟩).memory args fuel = true)
    (hx : X (w0.forCall (fun _ _ => 0) ⟨#[], args, []⟩).memory args) :
    ∃ (w : World) (tape : Tape) (i : Input), w.os = os ∧ (w.forCall tape i).Shaped C.prog ∧ i.vars = [] ∧ Input.okWide C.prog (w.forCall tape i) .any w.heap.size f i ∧
      ((s.pre enc C.prog fn conds apart (w.forCall tape i).memory i.args ∧ X (w.forCall tape i).memory i.args) ∧ sizedMet enc C.prog fn (OpenSpec.ofChange s) apart (w.forCall tape i).memory i.args) ∧ ({ modest := modest } : Assume).holds C.prog (lone (Frame.enter C.prog f i.args .normal) [] (w.forCall tape i)) :=
  ⟨w0, fun _ _ => 0, ⟨#[], args, []⟩, hos, World.shaped_of_RefB hv hr, (Input.okWide_of_okWideB (base := 0) hok).1, (Input.okWide_of_okWideB hok).2, ⟨⟨ChangeSpec.pre_of_preB hpre, hx⟩, sizedMet_of_sizedB hsz⟩, by
    simp only [Assume.holds]
    exact ⟨by simp, by simp, fun _ => Modest.zero, by simp, by simp⟩⟩

/-- A world that meets the condition. -/
noncomputable def laidWorld3 (os : Os) : World :=
  let N := (World.settled Tryz.prog os).heap.size
  let w0 := World.holding Tryz.prog os ⟨#[.cells Lib.caseCells5 (TryzlayUp_ren.t 208)], #[], []⟩
  let put (h : Array Obj) (g : Nat) (cs : Array Value) : Array Obj := h.modify g fun
    | .cells _ t frozen => .cells cs t frozen
    | o => o
  let h1 := put w0.heap 2 (Lib.firstTab.map fun z => Value.int .u8 z).toArray
  let h2 := put h1 3 ((List.range 16).flatMap fun i => [Value.int .u8 (Lib.accLo i), Value.int .u8 (Lib.accHi i)]).toArray
  let h3 := put h2 0 #[.slice (some ⟨N, 0, none⟩) 336 336]
  { w0 with heap := h3 }
theorem laid_turn {P : Program} {w : World} {a b c : String × DataW Unit} (h : laidMet P [a, b, c] w) : laidMet P [a, c, b] w := by
  obtain ⟨ps, hv, hnd, hrows⟩ := h
  obtain ⟨g1, t1, cs1, f1, p1, q1, e1, e2, e3, e4, h2, rfl⟩ := hv
  obtain ⟨g2, t2, cs2, f2, p2, q2, d1, d2, d3, d4, h3, rfl⟩ := h2
  obtain ⟨g3, t3, cs3, f3, p3, q3, c1, c2, c3, c4, h4, rfl⟩ := h3
  have h4' : q3 = [] := h4
  subst h4'
  have hp : (MemPlace.row ⟨g1, 0, none⟩ cs1.size ++ p1 ++ (MemPlace.row ⟨g2, 0, none⟩ cs2.size ++ p2 ++ (MemPlace.row ⟨g3, 0, none⟩ cs3.size ++ p3 ++ []))).Perm
      (MemPlace.row ⟨g1, 0, none⟩ cs1.size ++ p1 ++ (MemPlace.row ⟨g3, 0, none⟩ cs3.size ++ p3 ++ (MemPlace.row ⟨g2, 0, none⟩ cs2.size ++ p2 ++ []))) := by
    refine List.Perm.append_left _ ?_
    rw [List.append_nil, List.append_nil]
    exact List.perm_append_comm
  exact ⟨_, ⟨g1, t1, cs1, f1, p1, _, e1, e2, e3, e4, ⟨g3, t3, cs3, f3, p3, _, c1, c2, c3, c4, ⟨g2, t2, cs2, f2, p2, [], d1, d2, d3, d4, rfl, rfl⟩, rfl⟩, rfl⟩, hp.nodup_iff.1 hnd, fun b off hm => hrows b off (hp.mem_iff.2 hm)⟩
set_option maxRecDepth 100000 in
theorem laid_met3 (os : Os) (args : Array Value) : laidMetH Tryz.prog laid3 ((laidWorld3 os).forCall (fun _ _ => 0) ⟨#[], args, []⟩).memory := by
  have h : laidMet Tryz.prog [("unicode/utf8.acceptRanges", Lib.acceptData), ("unicode/utf8.first", Lib.firstData), ("unicode.CaseRanges", Lib.caseData)] ((laidWorld3 os).forCall (fun _ _ => 0) ⟨#[], args, []⟩).memory :=
    laidMet_with_case (ρ := TryzlayUp_ren) { TryzlayUp with } TryzlayUp.t206 ⟨by kernel_rfl, by kernel_rfl, by kernel_rfl, by kernel_rfl, by kernel_rfl, by kernel_rfl⟩
      (l := [("unicode/utf8.acceptRanges", Lib.acceptData), ("unicode/utf8.first", Lib.firstData)])
      10 (by kernel_rfl) (by kernel_rfl) (by kernel_rfl) (World.settled Tryz.prog default).heap.size (TryzlayUp_ren.t 208) (of_decide_eq_true (by kernel_rfl)) (by kernel_rfl) (by kernel_rfl) (by kernel_rfl)
  have h2 := laid_turn h
  rw [← accept_is3, ← first_is3, ← case_is3] at h2
  exact h2
end Go.Proofs.YthgjpppbpgndcaaGreatDoor
