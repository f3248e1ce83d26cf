import Derived.Test.YtekpmpghbeeeoaaGreatDoorLexPrn
/- package hornbooklaw6: known, same; Scan and Print as the laws use them. -/
namespace Go.Proofs.YtekpmpghbeeeoaaGreatDoor
open Go.RowKit Go.Shelf Go.Proofs.YtekpmpghbeeeoaaGreatDoorW.PrintWords Go.Proofs.YtekpmpghbeeeoaaGreatDoorW.PrintMore

/-- What the library's own variables hold. -/
structure LW (w : World) : Prop where
  tabs : Tabs w
  ml : ML w
  tz : TZ w
theorem LW.below {w w1 : World} (h : LW w) (hb : Below w.heap.size w w1) : LW w1 := ⟨h.tabs.below hb, h.ml.below hb, h.tz.below hb⟩
def scanT (s : List UInt8) : List Tok := (tk 0 s).1 ++ [⟨0, s.length, [], 0⟩]
theorem scan_ok (s : List UInt8) (w : World) (hW : LW w) (hl : s.length ≤ 800000) (h : (tk 0 s).2 = none) :
    Calls Tryz.prog 11 #[.string (S s)] w fun e w' => (∃ v, e = .returned (.tuple #[v, .int .i64 0, .int .i64 0]) ∧ RdK w' v (scanT s)) ∧ Below w.heap.size w w' := by
  refine (lex_scan s w hW.tabs hl).mono ?_
  rintro e w' ⟨h1 | h1, hb⟩
  · obtain ⟨p, hp, -⟩ := h1
    rw [h] at hp
    cases hp
  · obtain ⟨-, v, he, ho⟩ := h1
    refine ⟨⟨v, he, OwnK.rd ho ?_⟩, hb⟩
    have := (tk_order _ 0 s (Nat.le_refl _)).2.2.2
    unfold scanT
    rw [List.length_append, List.length_singleton]
    omega
theorem scan_no (s : List UInt8) (w : World) (hW : LW w) (hl : s.length ≤ 800000) {p : Nat} (h : (tk 0 s).2 = some p) :
    Calls Tryz.prog 11 #[.string (S s)] w fun e w' => e = .returned (.tuple #[.slice none 0 0, .int .i64 (p : Int), .int .i64 60]) ∧ Below w.heap.size w w' := by
  refine (lex_scan s w hW.tabs hl).mono ?_
  rintro e w' ⟨h1 | h1, hb⟩
  · obtain ⟨q, hq, he⟩ := h1
    rw [h] at hq
    cases hq
    exact ⟨he, hb⟩
  · rw [h] at h1
    cases h1.1
theorem know1 : tk 0 [39, 97, 45, 39, 122, 32, 35, 32, 110, 111] = ([⟨4, 0, [], 97⟩, ⟨6, 2, [45], 0⟩, ⟨4, 3, [], 122⟩], none) := by decide +kernel
theorem know2 : tk 0 [36, 120, 32, 64] = ([⟨1, 0, [120], 0⟩], some 3) := by decide +kernel
theorem know3 : printL [⟨4, 0, [], 97⟩, ⟨6, 2, [45], 0⟩, ⟨4, 3, [], 122⟩, ⟨0, 10, [], 0⟩] = [39, 92, 117, 123, 54, 49, 125, 32, 45, 32, 39, 92, 117, 123, 55, 65, 125] := by decide +kernel
set_option maxRecDepth 100000 in
set_option maxHeartbeats 4000000 in
theorem law6_known (w : World) (hW : LW w) : Calls Tryz.prog 10 #[] w fun e w' => e = .returned (.bool true) ∧ Below w.heap.size w w' := by
  have H1 := Lib.hid (scan_ok [39, 97, 45, 39, 122, 32, 35, 32, 110, 111] w hW (by decide) (by rw [know1]))
  have H2 : Hid (∀ W, LW W → Calls Tryz.prog 11 #[.string (S [36, 120, 32, 64])] W fun e w' => e = .returned (.tuple #[.slice none 0 0, .int .i64 3, .int .i64 60]) ∧ Below W.heap.size W w') := Lib.hid (fun W hW => scan_no [36, 120, 32, 64] W hW (by decide) (p := 3) (by rw [know2]))
  have HSC : scanT [39, 97, 45, 39, 122, 32, 35, 32, 110, 111] = [⟨4, 0, [], 97⟩, ⟨6, 2, [45], 0⟩, ⟨4, 3, [], 122⟩, ⟨0, 10, [], 0⟩] := by unfold scanT; rw [know1]; rfl
  have HP := Lib.hid (fun (v : Value) W hr hM hZ => lex_print v [⟨4, 0, [], 97⟩, ⟨6, 2, [45], 0⟩, ⟨4, 3, [], 122⟩, ⟨0, 10, [], 0⟩] W hr hM hZ (by decide) (by decide))
  rw [know3] at HP
  rw [HSC] at H1
  have HW := Lib.hid hW
  clear HSC hW
  have c1 : S [39, 97, 45, 39, 122, 32, 35, 32, 110, 111] = { data := #[39, 97, 45, 39, 122, 32, 35, 32, 110, 111] } := rfl
  have c2 : S [36, 120, 32, 64] = { data := #[36, 120, 32, 64] } := rfl
  have c3 : S [39, 92, 117, 123, 54, 49, 125, 32, 45, 32, 39, 92, 117, 123, 55, 65, 125] = { data := #[39, 92, 117, 123, 54, 49, 125, 32, 45, 32, 39, 92, 117, 123, 55, 65, 125] } := rfl
  rw [c1] at H1
  rw [c2] at H2
  rw [c3] at HP
  clear c1 c2 c3
  go_enter Tryz.func10, Tryz.ntmps10
  go_wp2_with fail
  refine H1.out.mono ?_
  rintro e w1 ⟨⟨v, he, hr⟩, hb1⟩
  subst he
  have HB1 := Lib.hid hb1
  have HR1 := Lib.hid hr
  clear hb1 hr
  go_wp2_with fail
  refine (H2.out _ (HW.out.below HB1.out)).mono ?_
  rintro e w2 ⟨he, hb2⟩
  subst he
  have HB2 := Lib.hid (HB1.out.trans (hb2.mono HB1.out.size))
  have HR2 := Lib.hid (HR1.out.below hb2)
  have HPP := Lib.hid (HP.out v w2 HR2.out (HW.out.ml.below HB2.out) (HW.out.tz.below HB2.out))
  clear hb2
  obtain ⟨A, c, ad, rfl, hx0, hat0⟩ := HR2.out.at_ (j := 0) (by decide)
  obtain ⟨A3, c3, ad3, hv, hx3, hat3⟩ := HR2.out.at_ (j := 3) (by decide)
  injection hv with hv1 _ hv2
  injection hv1 with hv1
  subst hv1 hv2
  obtain ⟨p0, -, -, p3⟩ := hat0
  obtain ⟨q0, -, -, -⟩ := hat3
  dsimp only [List.getElem_cons_zero, List.getElem_cons_succ] at p0 p3 q0
  have hx0' : ∀ W, (Instr.indexAt 23 (.slice (some A) 4 c) (.int .i64 0)).run Tryz.prog W = .ok (.pointer (some ad)) W := hx0
  have hx3' : ∀ W, (Instr.indexAt 23 (.slice (some A) 4 c) (.int .i64 3)).run Tryz.prog W = .ok (.pointer (some ad3)) W := hx3
  clear hx0 hx3
  go_wp2_with fail
  refine HPP.out.mono ?_
  rintro e w3 ⟨he, hb3⟩
  subst he
  have HB3 := Lib.hid (HB2.out.trans (hb3.mono HB2.out.size))
  clear hb3
  go_wp2_with fail
  go_ret
  exact ⟨rfl, HB3.out⟩
end Go.Proofs.YtekpmpghbeeeoaaGreatDoor
