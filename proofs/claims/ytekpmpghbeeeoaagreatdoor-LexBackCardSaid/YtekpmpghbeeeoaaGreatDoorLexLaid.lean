import Derived.Test.YtekpmpghbeeeoaaGreatDoorOpen
import Derived.Test.YtekpmpghbeeeoaaGreatDoorLexKnown
import Derived.Test.YtekpmpghbeeeoaaGreatDoorTie
import Derived.Test.YtekpmpghbeeeoaaGreatDoorCards
import Derived.Lib.LaidIn
import Derived.Lib.LaidU8T
import Derived.Lib.LaidTab
import Derived.Lib.LaidCaseMet
import Derived.Handed
import Derived.LaidHandle
import Derived.LaidLaws
import Derived.SevenTiedAt
import Derived.Shelf.Vars
/- The tables that the Lex laws list; a world that meets the condition. -/
namespace Go.Proofs.YtekpmpghbeeeoaaGreatDoor
open Go.ChangeShapes Go.WideShapes Go.ChangeAt Go.RowKit Go.Shelf Go.Proofs.YtekpmpghbeeeoaaGreatDoorW Go.Proofs.YtekpmpghbeeeoaaGreatDoorW.PrintWords

theorem first_is8 : (Rows.laid_unicode_utf8_first : DataW Unit) = Lib.firstData := by kernel_rfl
theorem accept_is8 : (Rows.laid_unicode_utf8_acceptRanges : DataW Unit) = Lib.acceptData := by kernel_rfl
set_option maxRecDepth 100000 in
theorem case_is8 : (Rows.laid_unicode_CaseRanges : DataW Unit) = Lib.caseData := by kernel_rfl
abbrev laid6 : List (String × DataW Unit) := [("math/bits.deBruijn32tab", Rows.laid_math_bits_deBruijn32tab), ("math/bits.deBruijn64tab", Rows.laid_math_bits_deBruijn64tab), ("internal/strconv.uint64pow10", Rows.laid_internal_strconv_uint64pow10), ("unicode/utf8.acceptRanges", Rows.laid_unicode_utf8_acceptRanges), ("strconv.ErrRange", Rows.laid_strconv_ErrRange), ("strconv.ErrSyntax", Rows.laid_strconv_ErrSyntax)]
abbrev laid8 : List (String × DataW Unit) := [("math/bits.deBruijn32tab", Rows.laid_math_bits_deBruijn32tab), ("math/bits.deBruijn64tab", Rows.laid_math_bits_deBruijn64tab), ("internal/strconv.uint64pow10", Rows.laid_internal_strconv_uint64pow10), ("unicode/utf8.acceptRanges", Rows.laid_unicode_utf8_acceptRanges), ("strconv.ErrRange", Rows.laid_strconv_ErrRange), ("strconv.ErrSyntax", Rows.laid_strconv_ErrSyntax), ("unicode.CaseRanges", Rows.laid_unicode_CaseRanges), ("unicode/utf8.first", Rows.laid_unicode_utf8_first)]
/-- The library's own number, out of the world's shape. -/
theorem ml_of_shaped {W : World} (h : W.ShapedOpen Tryz.prog) : ML W :=
  cell_of_shapedOpen_int (g := 4) (t := 3) (zero := #[.int .i64 0]) h (of_decide_eq_true (by kernel_rfl)) (by kernel_rfl) rfl (by kernel_rfl) (by kernel_rfl) Tryz.underlying3


def u8RenL : Go.Shelf.Ren := ⟨fun n => n, fun | 5 => 5 | 119 => 119 | 138 => 121 | 139 => 122 | n => n, fun | 3 => 2 | 4 => 3 | n => n⟩
theorem u8typesL : U8Types Tryz.prog u8RenL := ⟨Tryz.underlying5, Tryz.underlying119, Tryz.underlying121, Tryz.underlying122⟩
theorem u8extraL : U8Extra Tryz.prog u8RenL := ⟨by kernel_rfl, by kernel_rfl, by kernel_rfl, by kernel_rfl, by kernel_rfl, by kernel_rfl, by kernel_rfl⟩
def tab64 : List Int := [0, 1, 56, 2, 57, 49, 28, 3, 61, 58, 42, 50, 38, 29, 17, 4, 62, 47, 59, 36, 45, 43, 51, 22, 53, 39, 33, 30, 24, 18, 12, 5, 63, 55, 48, 27, 60, 41, 37, 16, 46, 35, 44, 21, 52, 32, 23, 11, 54, 26, 40, 15, 34, 20, 31, 10, 25, 14, 19, 9, 13, 8, 7, 6]
def tab32 : List Int := [0, 1, 28, 2, 29, 14, 24, 3, 30, 22, 20, 15, 25, 17, 4, 8, 31, 27, 13, 23, 21, 19, 16, 7, 26, 12, 18, 6, 11, 5, 10, 9]
def tab10 : List Int := [1, 10, 100, 1000, 10000, 100000, 1000000, 10000000, 100000000, 1000000000, 10000000000, 100000000000, 1000000000000, 10000000000000, 100000000000000, 1000000000000000, 10000000000000000, 100000000000000000, 1000000000000000000, 10000000000000000000]
theorem tab64_is : (Rows.laid_math_bits_deBruijn64tab : DataW Unit) = Lib.tabData .u8 tab64 := by kernel_rfl
/-- What the condition gives a walk. -/
theorem lw_of_laid {W : World} (h : laidMetH Tryz.prog laid8 W) (hsh : W.ShapedOpen Tryz.prog) : LW W := by
  have h' : laidMet Tryz.prog laid8 W := h
  have h1 := Lib.laidMet.reads h' (n := "unicode/utf8.acceptRanges") (d := Rows.laid_unicode_utf8_acceptRanges) (by simp)
  have h2 := Lib.laidMet.reads h' (n := "unicode/utf8.first") (d := Rows.laid_unicode_utf8_first) (by simp)
  have h3 := Lib.laidMet.reads h' (n := "math/bits.deBruijn64tab") (d := Rows.laid_math_bits_deBruijn64tab) (by simp)
  rw [accept_is8] at h1
  rw [first_is8] at h2
  rw [tab64_is] at h3
  refine ⟨utf8Tabs_of_readsT u8typesL u8extraL h2 h1, ml_of_shaped hsh, ?_⟩
  obtain ⟨g, t, cs, fuel, p, hg, ht, hv, hr⟩ := h3
  obtain rfl : 6 = g := Option.some.inj ((show Tryz.prog.globalNamed "math/bits.deBruijn64tab" = some 6 by kernel_rfl).symm.trans hg)
  obtain rfl : 139 = t := Option.some.inj ((show (Tryz.prog.globals[6]?).map (·.type) = some 139 by kernel_rfl).symm.trans ht)
  have hc := Lib.cells_of_tab (k := .u8) Tryz.underlying139 Tryz.underlying5 (by kernel_rfl) (by kernel_rfl) hr
  unfold TZ
  have hg' : Tryz.prog.globalNamed "math/bits.deBruijn64tab" = some 6 := by kernel_rfl
  simp only [World.var?, hg'] at hv
  unfold World.cell?
  cases hb : W.heap[6]? with
  | none => simp [hb] at hv
  | some o =>
    cases o <;> simp [hb] at hv
    subst hv
    rename_i cs' t' fz
    show cs'[15]? = _
    have : cs'.toList[15]? = some (.int .u8 4) := by rw [hc]; rfl
    simpa using this
/-- The wrap of a statement that lists laid variables, the world's shape kept. -/
theorem handed_shaped {H : Type} {enc : TypeId × Value → H} {a : Assume} {C : Checked} {os : Os} {f : FuncId} {fn : Func} {s : ChangeSpec} {conds : List PathCond} {apart fresh handsOn again : Bool} {X : World → Array Value → Prop}
    (hX : ∀ (w w' : World) (args : Array Value), w.heap = w'.heap → X w args → X w' args)
    (own : ownKnob C.prog.godebug = none) (started : os.Started) (noInit : C.prog.inits.idxOf? f = none) (hfn : C.prog.funcs[f]? = some fn)
    (witness : ∃ (w : World) (tape : Tape) (i : Input), w.os = os ∧ (w.forCall tape i).Shaped C.prog ∧ i.vars = [] ∧ Input.okWide C.prog (w.forCall tape i) .any w.heap.size f i ∧
      ((s.pre enc C.prog fn conds apart (w.forCall tape i).memory i.args ∧ X (w.forCall tape i).memory i.args) ∧ sizedMet enc C.prog fn (OpenSpec.ofChange s) apart (w.forCall tape i).memory i.args) ∧ a.holds C.prog (lone (Frame.enter C.prog f i.args .normal) [] (w.forCall tape i)))
    (contract : ∀ (W : World) (base : Nat) (args : Array Value) (ds gs : List (DataW H)) (before : List MemPlace),
      (∀ (j : Nat) t v, fn.params[j]? = some t → args[j]? = some v → Value.okWide C.prog W .any base t v) →
      DataW.Whole enc C.prog fn.params.toList s.vars apart W args.toList ds gs before →
      (DataW.weightsEach C.prog (fn.params.toList ++ s.plain.varTypes C.prog) (ds ++ gs)).all (· ≤ reachBytes) = true → X W args → W.ShapedOpen C.prog →
      Calls C.prog f args W fun e W' => ∃ v, e = .returned v ∧ s.post enc C.prog fn apart fresh handsOn again W args v W') :
    ReturnsInHanded a C os f .any (fun w args => (s.pre enc C.prog fn conds apart w args ∧ X w args) ∧ sizedMet enc C.prog fn (OpenSpec.ofChange s) apart w args) (s.post enc C.prog fn apart fresh handsOn again) := by
  refine returnsInHanded_of_calls own started noInit witness ?_
  intro w tape i _ hsh _ hok hpre _
  obtain ⟨_, _, _, fn', hfn', _, _, _, _, hval⟩ := hok
  obtain rfl : fn' = fn := Option.some.inj (hfn'.symm.trans hfn)
  obtain ⟨⟨⟨ds, gs, before, hw, hc⟩, hx⟩, hz⟩ := hpre
  have hw' := DataW.Whole.of_heap (w' := w.forCall tape i) (by rfl) hw
  refine (contract (w.forCall tape i) w.heap.size i.args ds gs before hval hw' (hz.weights hw) (hX _ _ _ (by rfl) hx) hsh).mono fun e W' ⟨v, he, hp⟩ => ?_
  subst he
  exact ChangeSpec.post_blind hp

theorem witness_ref {H : Type} {enc : TypeId × Value → H} {C : Checked} {os : Os} {f : FuncId} {fn : Func} {s : ChangeSpec} {conds : List PathCond} {apart : Bool} {X : World → Array Value → Prop} (modest : Bool) (w0 : World) (args : Array Value) (fuel : Nat) (hos : w0.os = os)
    (hv : (w0.forCall (fun _ _ => 0) ⟨#[], args, []⟩).variablesRefB C.prog = true)
    (hr : ((w0.forCall (fun _ _ => 0) ⟨#[], args, []⟩).heap.toList.drop C.prog.globals.size).take ((begin C.prog (fun _ _ => 0) default).world.heap.size - C.prog.globals.size) = (begin C.prog (fun _ _ => 0) default).world.heap.toList.drop C.prog.globals.size)
    (hok : Input.okWideB C.prog (w0.forCall (fun _ _ => 0) ⟨#[], args, []⟩) f ⟨#[], args, []⟩ = true)
    (hpre : s.preB enc C.prog fn conds apart (w0.forCall (fun _ _ => 0) ⟨#[], args, []⟩).memory args fuel = true)
    (hsz : s.sizedB enc C.prog fn apart (w0.forCall (fun _ _ => 0) ⟨#[], args, []⟩).memory args fuel = true)
    (hx : X (w0.forCall (fun _ _ => 0) ⟨#[], args, []⟩).memory args) :
    ∃ (w : World) (tape : Tape) (i : Input), w.os = os ∧ (w.forCall tape i).Shaped C.prog ∧ i.vars = [] ∧ Input.okWide C.prog (w.forCall tape i) .any w.heap.size f i ∧
      ((s.pre enc C.prog fn conds apart (w.forCall tape i).memory i.args ∧ X (w.forCall tape i).memory i.args) ∧ sizedMet enc C.prog fn (OpenSpec.ofChange s) apart (w.forCall tape i).memory i.args) ∧ ({ modest := modest } : Assume).holds C.prog (lone (Frame.enter C.prog f i.args .normal) [] (w.forCall tape i)) :=
  ⟨w0, fun _ _ => 0, ⟨#[], args, []⟩, hos, World.shaped_of_RefB hv hr, (Input.okWide_of_okWideB (base := 0) hok).1, (Input.okWide_of_okWideB hok).2, ⟨⟨ChangeSpec.pre_of_preB hpre, hx⟩, sizedMet_of_sizedB hsz⟩, by
    simp only [Assume.holds]
    exact ⟨by simp, by simp, fun _ => Modest.zero, by simp, by simp⟩⟩


/-- A world that meets the condition. -/
noncomputable def laidWorld8 (os : Os) : World :=
  let N := (World.settled Tryz.prog os).heap.size
  let w0 := World.holding Tryz.prog os ⟨#[.cells Lib.caseCells5 (TryzlayUp_ren.t 208), .cells #[.string ⟨#[118, 97, 108, 117, 101, 32, 111, 117, 116, 32, 111, 102, 32, 114, 97, 110, 103, 101]⟩] 145, .cells #[.string ⟨#[105, 110, 118, 97, 108, 105, 100, 32, 115, 121, 110, 116, 97, 120]⟩] 145], #[], []⟩
  let put (h : Array Obj) (g : Nat) (cs : Array Value) : Array Obj := h.modify g fun
    | .cells _ t frozen => .cells cs t frozen
    | o => o
  let h1 := put w0.heap 2 (Lib.firstTab.map fun z => Value.int .u8 z).toArray
  let h2 := put h1 3 ((List.range 16).flatMap fun i => [Value.int .u8 (Lib.accLo i), Value.int .u8 (Lib.accHi i)]).toArray
  let h3 := put h2 0 #[.slice (some ⟨N, 0, none⟩) 336 336]
  let h4 := put h3 5 (tab32.map fun z => Value.int .u8 z).toArray
  let h5 := put h4 6 (tab64.map fun z => Value.int .u8 z).toArray
  let h6 := put h5 1 (tab10.map fun z => Value.int .u64 z).toArray
  let h7 := put h6 8 #[.iface 143 (.pointer (some ⟨N + 1, 0, none⟩))]
  let h8 := put h7 7 #[.iface 143 (.pointer (some ⟨N + 2, 0, none⟩))]
  { w0 with heap := h8 }
theorem LaidVars_split {P : Program} {w : World} : ∀ {l l' : List (String × DataW Unit)} {ps : List MemPlace}, DataW.LaidVars P w (l ++ l') ps → ∃ p q, DataW.LaidVars P w l p ∧ DataW.LaidVars P w l' q ∧ ps = p ++ q
  | [], l', ps, h => ⟨[], ps, rfl, h, rfl⟩
  | (n, d) :: l, l', ps, h => by
    obtain ⟨g, t, cs, f, p, q, e1, e2, e3, e4, h2, rfl⟩ := h
    obtain ⟨p', q', h3, h4, rfl⟩ := LaidVars_split h2
    exact ⟨_, q', ⟨g, t, cs, f, p, p', e1, e2, e3, e4, h3, rfl⟩, h4, by simp [List.append_assoc]⟩
theorem laid_turn8 {P : Program} {w : World} {l : List (String × DataW Unit)} {b c : String × DataW Unit} (h : laidMet P (l ++ [b, c]) w) : laidMet P (l ++ [c, b]) w := by
  obtain ⟨ps, hv, hnd, hrows⟩ := h
  obtain ⟨p, q, h1, h2, rfl⟩ := LaidVars_split hv
  obtain ⟨g2, t2, cs2, f2, p2, q2, d1, d2, d3, d4, h3, rfl⟩ := h2
  obtain ⟨g3, t3, cs3, f3, p3, q3, c1, c2, c3, c4, h4, rfl⟩ := h3
  have h4' : q3 = [] := h4
  subst h4'
  have hp : (p ++ (MemPlace.row ⟨g2, 0, none⟩ cs2.size ++ p2 ++ (MemPlace.row ⟨g3, 0, none⟩ cs3.size ++ p3 ++ []))).Perm
      (p ++ (MemPlace.row ⟨g3, 0, none⟩ cs3.size ++ p3 ++ (MemPlace.row ⟨g2, 0, none⟩ cs2.size ++ p2 ++ []))) := by
    refine List.Perm.append_left _ ?_
    rw [List.append_nil, List.append_nil]
    exact List.perm_append_comm
  have hq : DataW.LaidVars P w [c, b] (MemPlace.row ⟨g3, 0, none⟩ cs3.size ++ p3 ++ (MemPlace.row ⟨g2, 0, none⟩ cs2.size ++ p2 ++ [])) :=
    ⟨g3, t3, cs3, f3, p3, _, c1, c2, c3, c4, ⟨g2, t2, cs2, f2, p2, [], d1, d2, d3, d4, rfl, rfl⟩, rfl⟩
  exact ⟨_, LaidVars_append h1 hq, hp.nodup_iff.1 hnd, fun b off hm => hrows b off (hp.mem_iff.2 hm)⟩
set_option maxRecDepth 100000 in
theorem laid_met8 (os : Os) (args : Array Value) : laidMetH Tryz.prog laid8 ((laidWorld8 os).forCall (fun _ _ => 0) ⟨#[], args, []⟩).memory := by
  have h : laidMet Tryz.prog (laid6 ++ [("unicode/utf8.first", Lib.firstData)] ++ [("unicode.CaseRanges", Lib.caseData)]) ((laidWorld8 os).forCall (fun _ _ => 0) ⟨#[], args, []⟩).memory :=
    laidMet_with_case (ρ := TryzlayUp_ren) { TryzlayUp with } TryzlayUp.t206 ⟨by kernel_rfl, by kernel_rfl, by kernel_rfl, by kernel_rfl, by kernel_rfl, by kernel_rfl⟩
      (l := laid6 ++ [("unicode/utf8.first", Lib.firstData)])
      10 (by kernel_rfl) (by kernel_rfl) (by kernel_rfl) (World.settled Tryz.prog default).heap.size (TryzlayUp_ren.t 208) (of_decide_eq_true (by kernel_rfl)) (by kernel_rfl) (by kernel_rfl) (by kernel_rfl)
  rw [List.append_assoc] at h
  have h2 := laid_turn8 h
  rw [← first_is8, ← case_is8] at h2
  exact h2
end Go.Proofs.YtekpmpghbeeeoaaGreatDoor
