import Derived.Test.YtekpmpghbeeeoaaGreatDoorLexBackS
import Derived.Test.YtekpmpghbeeeoaaGreatDoorHeld2
import Derived.Deep.DeepCutAuto
/- LexBack: what is printed is read as the same signs, but for places; printed again it is the same. -/
namespace Go.Proofs.YtekpmpghbeeeoaaGreatDoor
open Go.RowKit Go.Shelf Go.Proofs.YtekpmpghbeeeoaaGreatDoorW.PrintWords Go.Proofs.YtekpmpghbeeeoaaGreatDoorW.PrintMore

theorem text_er {ts us : List Tok} {M : Nat} (h : us.map er = ts.map er) (hm : ∀ t ∈ ts, t.text.length ≤ M) : ∀ u ∈ us, u.text.length ≤ M := fun u hu => by
  have h1 : er u ∈ us.map er := List.mem_map.2 ⟨u, hu, rfl⟩
  rw [h] at h1
  obtain ⟨t, ht, he⟩ := List.mem_map.1 h1
  unfold er at he
  injection he with _ _ he _
  rw [← he]
  exact hm t ht
theorem scanT_next {s : List UInt8} (k : Nat) (x y : Tok) (h1 : (scanT s)[k]? = some x) (h2 : (scanT s)[k + 1]? = some y) : x.at_ ≤ y.at_ := by
  obtain ⟨g1, e1⟩ := List.getElem?_eq_some_iff.1 h1
  obtain ⟨g2, e2⟩ := List.getElem?_eq_some_iff.1 h2
  rw [← e1, ← e2]
  exact scanT_step g2
theorem two_below (W : World) (a b : Obj) : Below W.heap.size W ((W.alloc a).alloc b).drew := (((Below.refl _ W).alloc (Nat.le_refl _) a).alloc (by simp) b).drew
theorem two_first (W : World) (k a r : Int) (t : ByteArray) (b : Obj) : TokAt ((W.alloc (.cells #[.int .i64 k, .int .i64 a, .string t, .int .i32 r] 33)).alloc b).drew W.heap.size k a t r :=
  (Below.heap_alloc _ b W.heap.size (by simp)).trans (World.alloc_heap_new W _)
theorem two_second (W : World) (k a r : Int) (t : ByteArray) (b : Obj) : TokAt ((W.alloc b).alloc (.cells #[.int .i64 k, .int .i64 a, .string t, .int .i32 r] 33)).drew (W.heap.size + 1) k a t r := by
  have := World.alloc_heap_new (W.alloc b) (.cells #[.int .i64 k, .int .i64 a, .string t, .int .i32 r] 33)
  rw [World.size_alloc] at this
  exact this
theorem TokAt.store {X : World} {g : Nat} {k a r : Int} {t : ByteArray} (h : TokAt X g k a t r) (k' a' : Int) (t' : ByteArray) (r' : Int) :
    TokAt ((((X.setCell ⟨g, 0, none⟩ (.int .i64 k')).setCell ⟨g, 1, none⟩ (.int .i64 a')).setCell ⟨g, 2, none⟩ (.string t')).setCell ⟨g, 3, none⟩ (.int .i32 r')) g k' a' t' r' := by
  unfold TokAt at *
  unfold World.setCell
  simp [Array.getElem?_modify, h]
theorem TokAt.other {X : World} {g : Nat} {k a r : Int} {t : ByteArray} (h : TokAt X g k a t r) {p : Addr} (hp : g ≠ p.block) (v : Value) : TokAt (X.setCell p v) g k a t r := (Below.heap_setCell X p v g hp).trans h
theorem TokAt.others {X : World} {g g2 : Nat} {k a r : Int} {t : ByteArray} (h : TokAt X g k a t r) (hp : g ≠ g2) (va b c d : Value) :
    TokAt ((((X.setCell ⟨g2, 0, none⟩ va).setCell ⟨g2, 1, none⟩ b).setCell ⟨g2, 2, none⟩ c).setCell ⟨g2, 3, none⟩ d) g k a t r := (((h.other (p := ⟨g2, 0, none⟩) hp va).other (p := ⟨g2, 1, none⟩) hp b).other (p := ⟨g2, 2, none⟩) hp c).other (p := ⟨g2, 3, none⟩) hp d
theorem below4 {B : Nat} {w X : World} (h : Below B w X) {g : Nat} (hg : B ≤ g) (a b c d : Value) : Below B w ((((X.setCell ⟨g, 0, none⟩ a).setCell ⟨g, 1, none⟩ b).setCell ⟨g, 2, none⟩ c).setCell ⟨g, 3, none⟩ d) :=
  (((h.setCell (p := ⟨g, 0, none⟩) hg a).setCell (p := ⟨g, 1, none⟩) hg b).setCell (p := ⟨g, 2, none⟩) hg c).setCell (p := ⟨g, 3, none⟩) hg d
set_option maxRecDepth 100000 in
set_option maxHeartbeats 16000000 in
theorem lexBack_walk (a0 : ByteArray) (w : World) (hW : LW w) (hsz0 : a0.size ≤ 140737488351232) :
    Calls Tryz.prog 4 #[.string a0] w fun e w' => e = .returned (.bool true) ∧ Below w.heap.size w w' := by
  have HK := Lib.hid (law6_known w hW)
  have HW := Lib.hid hW
  clear hW
  obtain ⟨s, hs⟩ : ∃ s, S s = a0 := ⟨_, S_of a0⟩
  have hsz := S_size s
  rw [hs] at hsz
  by_cases hlong : 600 < s.length
  · have hlong' : 600 < (a0.size : Int) := by omega
    clear hs
    go_enter Tryz.func4, Tryz.ntmps4
    go_wp2_with fail
    refine HK.out.mono ?_
    rintro e w1 ⟨he, hb1⟩
    subst he
    have HB1 := Lib.hid hb1
    clear hb1
    go_wp2_with fail
    go_ret
    exact ⟨rfl, HB1.out⟩
  · have hlong' : ¬ 600 < (a0.size : Int) := by omega
    cases hsn : (tk 0 s).2 with
    | some p =>
      have HSC := Lib.hid (fun W hW => scan_no s W hW (by omega) hsn)
      rw [hs] at HSC
      have hps := (tk_order _ 0 s (Nat.le_refl _)).2.2.1 p hsn
      have hp1 : (p : Int) < (s.length : Int) := by omega
      have hp0 : 0 ≤ (p : Int) := by omega
      clear hsn hs
      go_enter Tryz.func4, Tryz.ntmps4
      go_wp2_with fail
      refine HK.out.mono ?_
      rintro e w1 ⟨he, hb1⟩
      subst he
      have HB1 := Lib.hid hb1
      clear hb1
      go_wp2_with fail
      refine (HSC.out _ (HW.out.below HB1.out)).mono ?_
      rintro e w2 ⟨he, hb2⟩
      subst he
      have HB2 := Lib.hid (HB1.out.trans (hb2.mono HB1.out.size))
      clear hb2
      go_wp2_with fail
      go_ret
      exact ⟨by simp <;> omega, HB2.out⟩
    | none =>
      have HSC := Lib.hid (fun W hW => scan_ok s W hW (by omega) hsn)
      rw [hs] at HSC
      obtain ⟨hb1, hb2⟩ := back_scan (s := s)
      have hpl := print_len (s := s) (by omega)
      have hln := scanT_len (s := s)
      have htx := fun t ht => Nat.le_trans (scanT_text (s := s) t ht) (show s.length ≤ 100000 by omega)
      have htu := text_er hb2 htx
      have hlu : (scanT (printL (scanT s))).length = (scanT s).length := by have := congrArg List.length hb2; simpa using this
      have HS2 := Lib.hid (fun W hW => scan_ok (printL (scanT s)) W hW hpl hb1)
      have HP1 := Lib.hid (fun (v : Value) W hr hM hZ => lex_print v (scanT s) W hr hM hZ (by omega) htx)
      have HP2 := Lib.hid (fun (v : Value) W hr hM hZ => lex_print v (scanT (printL (scanT s))) W hr hM hZ (by omega) htu)
      rw [back_print] at HP2
      have HER := Lib.hid (fun k (h1 : k < (scanT s).length) (h2 : k < (scanT (printL (scanT s))).length) => er_at hb2 h1 h2)
      have HO1 := Lib.hid (scanT_next (s := s))
      have HO2 := Lib.hid (scanT_next (s := printL (scanT s)))
      have HLAST : Hid (∃ h : (scanT s).length - 1 < (scanT s).length, (scanT s)[(scanT s).length - 1] = ⟨0, s.length, [], 0⟩) := Lib.hid ⟨by unfold scanT; simp, by unfold scanT; simp⟩
      have hpos : 0 < (scanT s).length := by unfold scanT; simp
      have hsize1 : (scanT s).length ≤ 601 := by omega
      clear hb1 hb2 hpl htx htu hsn hs hln
      generalize scanT (printL (scanT s)) = us at *
      generalize S (printL (scanT s)) = st at *
      generalize scanT s = ts at *
      go_enter Tryz.func4, Tryz.ntmps4
      go_wp2_with fail
      refine HK.out.mono ?_
      rintro e w1 ⟨he, hb1⟩
      subst he
      have HB1 := Lib.hid hb1
      clear hb1
      go_wp2_with fail
      refine (HSC.out _ (HW.out.below HB1.out)).mono ?_
      rintro e w2 ⟨⟨va, he, hra⟩, hb2⟩
      subst he
      have HB2 := Lib.hid (HB1.out.trans (hb2.mono HB1.out.size))
      have HRA := Lib.hid hra
      have HPA := Lib.hid (HP1.out va w2 hra (HW.out.ml.below HB2.out) (HW.out.tz.below HB2.out))
      obtain ⟨A, ca, rfl, -⟩ := hra
      clear hb2
      go_wp2_with fail
      refine HPA.out.mono ?_
      rintro e w3 ⟨he, hb3⟩
      subst he
      have HB3 := Lib.hid (HB2.out.trans (hb3.mono HB2.out.size))
      have HRA3 := Lib.hid (HRA.out.below hb3)
      clear hb3
      go_wp2_with fail
      refine (HS2.out _ (HW.out.below HB3.out)).mono ?_
      rintro e w4 ⟨⟨vb, he, hrb⟩, hb4⟩
      subst he
      have HB4 := Lib.hid (HB3.out.trans (hb4.mono HB3.out.size))
      have HRA4 := Lib.hid (HRA3.out.below hb4)
      have HRB := Lib.hid hrb
      have HPB := Lib.hid (HP2.out vb w4 hrb (HW.out.ml.below HB4.out) (HW.out.tz.below HB4.out))
      obtain ⟨B, cb, rfl, -⟩ := hrb
      clear hb4
      rw [hlu] at HRB HPB ⊢
      go_wp2_with fail
      refine HPB.out.mono ?_
      rintro e w5 ⟨he, hb5⟩
      subst he
      have HB5 := Lib.hid (HB4.out.trans (hb5.mono HB4.out.size))
      have HRA5 := Lib.hid (HRA4.out.below hb5)
      have HRB5 : Hid (RdK w5 (.slice B ts.length cb) us) := Lib.hid (HRB.out.below hb5)
      clear hb5
      go_wp2_with fail
      go_loopw [10] (fun i wr => ∃ k : Nat, k ≤ ts.length ∧ i = .int .i64 (k : Int) ∧ Hid (Below w5.heap.size w5 wr)) (fun i _ => ts.length - (intOf i).toNat)
      case atStart => exact ⟨0, Nat.zero_le _, rfl, Lib.hid (Below.refl _ _)⟩
      case round =>
        obtain ⟨k, hk, rfl, HBR⟩ := hrel
        by_cases hlt : k < ts.length
        · have hlt' : (k : Int) < (ts.length : Int) := by omega
          obtain ⟨a, c', ada, hv, hx1, hat1⟩ := (HRA5.out.below HBR.out).at_ hlt
          injection hv with hv1 _ hv2
          subst hv1 hv2
          have hltu : k < us.length := by rw [hlu]; exact hlt
          obtain ⟨b, c', adb, hv, hx2, hat2⟩ := RdK.at_ (by have := HRB5.out.below HBR.out; rwa [← hlu] at this) hltu
          rw [hlu] at hv hx2
          injection hv with hv1 _ hv2
          subst hv1 hv2
          obtain ⟨g1, g2, g3⟩ := HER.out k hlt hltu
          have HPREV : Hid (0 < k → ∃ (x0 y0 : Nat) (adp adq : Addr), x0 ≤ ts[k].at_ ∧ y0 ≤ us[k].at_ ∧ (∀ W, (Instr.indexAt 23 (.slice (some a) ts.length ca) (.int .i64 ((k - 1 : Nat) : Int))).run Tryz.prog W = .ok (.pointer (some adp)) W) ∧ (∀ W, (Instr.indexAt 23 (.slice (some b) ts.length cb) (.int .i64 ((k - 1 : Nat) : Int))).run Tryz.prog W = .ok (.pointer (some adq)) W) ∧ wr.cell? ⟨adp.block, adp.off + 1, none⟩ = some (.int .i64 (x0 : Int)) ∧ wr.cell? ⟨adq.block, adq.off + 1, none⟩ = some (.int .i64 (y0 : Int))) := Lib.hid (fun h0 => by
            obtain ⟨m, rfl⟩ : ∃ m, k = m + 1 := ⟨k - 1, by omega⟩
            obtain ⟨a', c', adp, hv, hx3, hat3⟩ := (HRA5.out.below HBR.out).at_ (j := m) (by omega)
            injection hv with hv1 _ hv2
            injection hv1 with hv1
            subst hv1 hv2
            obtain ⟨b', c', adq, hv, hx4, hat4⟩ := RdK.at_ (j := m) (by have := HRB5.out.below HBR.out; rwa [← hlu] at this) (by omega)
            rw [hlu] at hv hx4
            injection hv with hv1 _ hv2
            injection hv1 with hv1
            subst hv1 hv2
            exact ⟨_, _, adp, adq, HO1.out m _ _ (List.getElem?_eq_getElem (by omega)) (List.getElem?_eq_getElem hlt), HO2.out m _ _ (List.getElem?_eq_getElem (by omega)) (List.getElem?_eq_getElem hltu), hx3, hx4, hat3.2.1, hat4.2.1⟩)
          obtain ⟨p0, p1, p2, p3⟩ := hat1
          obtain ⟨q0, q1, q2, q3⟩ := hat2
          rw [g1] at q0
          rw [g2] at q2
          rw [g3] at q3
          generalize us[k].at_ = y1 at *
          generalize ts[k].at_ = x1 at *
          generalize ts[k].kind = kd at *
          generalize S ts[k].text = tx at *
          generalize ts[k].r = rr at *
          clear g1 g2 g3
          go_upto_region 15 with fail
          go_cut [11, 12] (fun s11 s12 wx => ∃ g1 g2 : Nat, s11 = .pointer (some ⟨g1, 0, none⟩) ∧ s12 = .pointer (some ⟨g2, 0, none⟩) ∧ g1 ≠ g2 ∧ wr.heap.size ≤ g1 ∧ wr.heap.size ≤ g2 ∧ TokAt wx g1 kd (x1 : Int) tx rr ∧ TokAt wx g2 kd (y1 : Int) tx rr ∧ Below wr.heap.size wr wx)
          case first =>
            refine wp_region_held_drew (S := fun X => Below wr.heap.size wr X) (by kernel_rfl) ((Below.refl _ _).drew) (fun hHeld => ?_)
            refine held_take (i := 0) (v := ?_) rfl (by kernel_rfl) (by kernel_rfl) (by kernel_rfl) (fun _ _ _ h => h) (by rfl) hHeld ?y15_0 ?_
            case y15_0 => (intro w hSw; (try dsimp only at hSw); go_simp; try with_reducible rfl)
            try simp only [Act.put, List.setIfInBounds_toArray, List.set_cons_zero, List.set_cons_succ]
            refine held_take (i := 1) (v := ?_) rfl (by kernel_rfl) (by kernel_rfl) (by kernel_rfl) (fun _ _ _ h => h) (by rfl) hHeld ?y15_1 ?_
            case y15_1 => (intro w hSw; (try dsimp only at hSw); go_simp; try with_reducible rfl)
            try simp only [Act.put, List.setIfInBounds_toArray, List.set_cons_zero, List.set_cons_succ]
            refine held_take (i := 2) (v := ?_) rfl (by kernel_rfl) (by kernel_rfl) (by kernel_rfl) (fun _ _ _ h => h) (by rfl) hHeld ?y15_2 ?_
            case y15_2 => (intro w hSw; (try dsimp only at hSw); go_simp; try with_reducible rfl)
            try simp only [Act.put, List.setIfInBounds_toArray, List.set_cons_zero, List.set_cons_succ]
            refine held_take (i := 3) (v := ?_) rfl (by kernel_rfl) (by kernel_rfl) (by kernel_rfl) (fun _ _ _ h => h) (by rfl) hHeld ?y15_3 ?_
            case y15_3 => (intro X hSw; have r0 := pw_cell_below hSw p0; have r1 := pw_cell_below hSw p1; have r2 := pw_cell_below hSw p2; have r3 := pw_cell_below hSw p3; go_simp; try with_reducible rfl)
            try simp only [Act.put, List.setIfInBounds_toArray, List.set_cons_zero, List.set_cons_succ]
            refine held_take (i := 4) (v := ?_) rfl (by kernel_rfl) (by kernel_rfl) (by kernel_rfl) (fun _ _ _ h => h) (by rfl) hHeld ?y15_4 ?_
            case y15_4 => (intro w hSw; (try dsimp only at hSw); go_simp; try with_reducible rfl)
            try simp only [Act.put, List.setIfInBounds_toArray, List.set_cons_zero, List.set_cons_succ]
            refine held_take (i := 5) (v := ?_) rfl (by kernel_rfl) (by kernel_rfl) (by kernel_rfl) (fun _ _ _ h => h) (by rfl) hHeld ?y15_5 ?_
            case y15_5 => (intro w hSw; (try dsimp only at hSw); go_simp; try with_reducible rfl)
            try simp only [Act.put, List.setIfInBounds_toArray, List.set_cons_zero, List.set_cons_succ]
            refine held_take (i := 6) (v := ?_) rfl (by kernel_rfl) (by kernel_rfl) (by kernel_rfl) (fun _ _ _ h => h) (by rfl) hHeld ?y15_6 ?_
            case y15_6 => (intro w hSw; (try dsimp only at hSw); go_simp; try with_reducible rfl)
            try simp only [Act.put, List.setIfInBounds_toArray, List.set_cons_zero, List.set_cons_succ]
            refine held_take (i := 7) (v := ?_) rfl (by kernel_rfl) (by kernel_rfl) (by kernel_rfl) (fun _ _ _ h => h) (by rfl) hHeld ?y15_7 ?_
            case y15_7 => (intro X hSw; have r0 := pw_cell_below hSw q0; have r1 := pw_cell_below hSw q1; have r2 := pw_cell_below hSw q2; have r3 := pw_cell_below hSw q3; go_simp; try with_reducible rfl)
            try simp only [Act.put, List.setIfInBounds_toArray, List.set_cons_zero, List.set_cons_succ]
            refine wpAnyH_ready (rs := [8, 9]) (by kernel_rfl) (by simp) ?_
            refine held_cons (i := 8) rfl (fun K hK => ?_) (held_cons (i := 9) rfl (fun K hK => ?_) AllReadyH.nil)
            · go_simp
              refine hK.out _ _ ?_ (fun hHeld => ?_)
              · exact Below.alloc hHeld hHeld.size _
              clear hK K
              try simp only [Act.put, List.setIfInBounds_toArray, List.set_cons_zero, List.set_cons_succ]
              refine held_one (i := 9) (by kernel_rfl) rfl (fun K hK => ?_)
              go_simp
              refine hK.out _ _ ?_ (fun hHeld => ?_)
              · exact Below.alloc hHeld hHeld.size _
              clear hK K
              try simp only [Act.put, List.setIfInBounds_toArray, List.set_cons_zero, List.set_cons_succ]
              refine held_one (i := 10) (by kernel_rfl) rfl (fun K hK => ?_)
              go_simp
              refine hK.out _ _ ?_ (fun hHeld => ?_)
              · exact two_below _ _ _
              clear hK K
              try simp only [Act.put, List.setIfInBounds_toArray, List.set_cons_zero, List.set_cons_succ]
              refine held_one (i := 11) (by kernel_rfl) rfl (fun K hK => ?_)
              go_simp
              refine hK.out _ _ ?_ (fun hHeld => ?_)
              · exact two_below _ _ _
              clear hK K
              try simp only [Act.put, List.setIfInBounds_toArray, List.set_cons_zero, List.set_cons_succ]
              refine wpAnyH_done (by kernel_rfl) ?_ _
              go_wp2_with fail
              go_meet
              exact ⟨wr.heap.size, wr.heap.size + 1, rfl, rfl, by omega, Nat.le_refl _, by omega, two_first _ _ _ _ _ _, two_second _ _ _ _ _ _, two_below _ _ _⟩
            · go_simp
              refine hK.out _ _ ?_ (fun hHeld => ?_)
              · exact Below.alloc hHeld hHeld.size _
              clear hK K
              try simp only [Act.put, List.setIfInBounds_toArray, List.set_cons_zero, List.set_cons_succ]
              refine held_one (i := 8) (by kernel_rfl) rfl (fun K hK => ?_)
              go_simp
              refine hK.out _ _ ?_ (fun hHeld => ?_)
              · exact Below.alloc hHeld hHeld.size _
              clear hK K
              try simp only [Act.put, List.setIfInBounds_toArray, List.set_cons_zero, List.set_cons_succ]
              refine held_one (i := 10) (by kernel_rfl) rfl (fun K hK => ?_)
              go_simp
              refine hK.out _ _ ?_ (fun hHeld => ?_)
              · exact two_below _ _ _
              clear hK K
              try simp only [Act.put, List.setIfInBounds_toArray, List.set_cons_zero, List.set_cons_succ]
              refine held_one (i := 11) (by kernel_rfl) rfl (fun K hK => ?_)
              go_simp
              refine hK.out _ _ ?_ (fun hHeld => ?_)
              · exact two_below _ _ _
              clear hK K
              try simp only [Act.put, List.setIfInBounds_toArray, List.set_cons_zero, List.set_cons_succ]
              refine wpAnyH_done (by kernel_rfl) ?_ _
              go_wp2_with fail
              go_meet
              exact ⟨wr.heap.size + 1, wr.heap.size, rfl, rfl, by omega, by omega, Nat.le_refl _, two_second _ _ _ _ _ _, two_first _ _ _ _ _ _, two_below _ _ _⟩
          case rest =>
            obtain ⟨g1, g2, rfl, rfl, hne, hg1, hg2, ht1, ht2, hbx⟩ := hcut
            have HBX := Lib.hid hbx
            have HPV := Lib.hid (fun h0 => by
              obtain ⟨x0, y0, adp, adq, l1, l2, i1, i2, c1, c2⟩ := HPREV.out h0
              exact (⟨x0, y0, adp, adq, l1, l2, i1, i2, pw_cell_below hbx c1, pw_cell_below hbx c2⟩ : ∃ (x0 y0 : Nat) (adp adq : Addr), x0 ≤ x1 ∧ y0 ≤ y1 ∧ (∀ W, (Instr.indexAt 23 (.slice (some a) ts.length ca) (.int .i64 ((k - 1 : Nat) : Int))).run Tryz.prog W = .ok (.pointer (some adp)) W) ∧ (∀ W, (Instr.indexAt 23 (.slice (some b) ts.length cb) (.int .i64 ((k - 1 : Nat) : Int))).run Tryz.prog W = .ok (.pointer (some adq)) W) ∧ wc.cell? ⟨adp.block, adp.off + 1, none⟩ = some (.int .i64 (x0 : Int)) ∧ wc.cell? ⟨adq.block, adq.off + 1, none⟩ = some (.int .i64 (y0 : Int))))
            clear hbx HPREV p0 p1 p2 p3 q0 q1 q2 q3 hx1 hx2
            have HT1 := Lib.hid ht1
            have HT2 := Lib.hid ht2
            obtain ⟨-, t1, -⟩ := ht1.cells
            obtain ⟨-, u1, -⟩ := ht2.cells
            clear ht1 ht2
            have hbx2 : Hid (Below wr.heap.size wr wc.drew) := Lib.hid HBX.out.drew
            by_cases hk0 : k = 0
            · have hkn : ¬ (0 : Int) < (k : Int) := by omega
              have hkn2 : ¬ 0 < k := by omega
              go_upto_region 16 with fail
              refine wp_region_held_drew (S := fun X => Below wc.heap.size wc X) (by kernel_rfl) ((Below.refl _ _).drew) (fun hHeld => ?_)
              refine held_take (i := 0) (v := ?_) rfl (by kernel_rfl) (by kernel_rfl) (by kernel_rfl) (fun _ _ _ h => h) (by rfl) hHeld ?y16_0 ?_
              case y16_0 => (intro w hSw; (try dsimp only at hSw); go_simp; try with_reducible rfl)
              try simp only [Act.put, List.setIfInBounds_toArray, List.set_cons_zero, List.set_cons_succ]
              refine held_take (i := 1) (v := ?_) rfl (by kernel_rfl) (by kernel_rfl) (by kernel_rfl) (fun _ _ _ h => h) (by rfl) hHeld ?y16_1 ?_
              case y16_1 => (intro w hSw; (try dsimp only at hSw); go_simp; try with_reducible rfl)
              try simp only [Act.put, List.setIfInBounds_toArray, List.set_cons_zero, List.set_cons_succ]
              refine held_take (i := 2) (v := ?_) rfl (by kernel_rfl) (by kernel_rfl) (by kernel_rfl) (fun _ _ _ h => h) (by rfl) hHeld ?y16_2 ?_
              case y16_2 => (intro w hSw; (try dsimp only at hSw); go_simp; try with_reducible rfl)
              try simp only [Act.put, List.setIfInBounds_toArray, List.set_cons_zero, List.set_cons_succ]
              refine held_off (i := 3) rfl (by kernel_rfl) (by kernel_rfl) (by kernel_rfl) (fun _ _ _ h => h) (by rfl) hHeld ?_
              try simp only [Act.put, List.setIfInBounds_toArray, List.set_cons_zero, List.set_cons_succ]
              refine held_off (i := 4) rfl (by kernel_rfl) (by kernel_rfl) (by kernel_rfl) (fun _ _ _ h => h) (by rfl) hHeld ?_
              try simp only [Act.put, List.setIfInBounds_toArray, List.set_cons_zero, List.set_cons_succ]
              refine held_off (i := 5) rfl (by kernel_rfl) (by kernel_rfl) (by kernel_rfl) (fun _ _ _ h => h) (by rfl) hHeld ?_
              try simp only [Act.put, List.setIfInBounds_toArray, List.set_cons_zero, List.set_cons_succ]
              refine held_off (i := 6) rfl (by kernel_rfl) (by kernel_rfl) (by kernel_rfl) (fun _ _ _ h => h) (by rfl) hHeld ?_
              try simp only [Act.put, List.setIfInBounds_toArray, List.set_cons_zero, List.set_cons_succ]
              refine held_off (i := 7) rfl (by kernel_rfl) (by kernel_rfl) (by kernel_rfl) (fun _ _ _ h => h) (by rfl) hHeld ?_
              try simp only [Act.put, List.setIfInBounds_toArray, List.set_cons_zero, List.set_cons_succ]
              refine held_off (i := 8) rfl (by kernel_rfl) (by kernel_rfl) (by kernel_rfl) (fun _ _ _ h => h) (by rfl) hHeld ?_
              try simp only [Act.put, List.setIfInBounds_toArray, List.set_cons_zero, List.set_cons_succ]
              refine held_off (i := 9) rfl (by kernel_rfl) (by kernel_rfl) (by kernel_rfl) (fun _ _ _ h => h) (by rfl) hHeld ?_
              try simp only [Act.put, List.setIfInBounds_toArray, List.set_cons_zero, List.set_cons_succ]
              refine held_off (i := 10) rfl (by kernel_rfl) (by kernel_rfl) (by kernel_rfl) (fun _ _ _ h => h) (by rfl) hHeld ?_
              try simp only [Act.put, List.setIfInBounds_toArray, List.set_cons_zero, List.set_cons_succ]
              refine held_off (i := 11) rfl (by kernel_rfl) (by kernel_rfl) (by kernel_rfl) (fun _ _ _ h => h) (by rfl) hHeld ?_
              try simp only [Act.put, List.setIfInBounds_toArray, List.set_cons_zero, List.set_cons_succ]
              refine held_off (i := 12) rfl (by kernel_rfl) (by kernel_rfl) (by kernel_rfl) (fun _ _ _ h => h) (by rfl) hHeld ?_
              try simp only [Act.put, List.setIfInBounds_toArray, List.set_cons_zero, List.set_cons_succ]
              refine held_off (i := 13) rfl (by kernel_rfl) (by kernel_rfl) (by kernel_rfl) (fun _ _ _ h => h) (by rfl) hHeld ?_
              try simp only [Act.put, List.setIfInBounds_toArray, List.set_cons_zero, List.set_cons_succ]
              refine held_off (i := 14) rfl (by kernel_rfl) (by kernel_rfl) (by kernel_rfl) (fun _ _ _ h => h) (by rfl) hHeld ?_
              try simp only [Act.put, List.setIfInBounds_toArray, List.set_cons_zero, List.set_cons_succ]
              refine held_off (i := 15) rfl (by kernel_rfl) (by kernel_rfl) (by kernel_rfl) (fun _ _ _ h => h) (by rfl) hHeld ?_
              try simp only [Act.put, List.setIfInBounds_toArray, List.set_cons_zero, List.set_cons_succ]
              refine held_off (i := 16) rfl (by kernel_rfl) (by kernel_rfl) (by kernel_rfl) (fun _ _ _ h => h) (by rfl) hHeld ?_
              try simp only [Act.put, List.setIfInBounds_toArray, List.set_cons_zero, List.set_cons_succ]
              refine held_off (i := 17) rfl (by kernel_rfl) (by kernel_rfl) (by kernel_rfl) (fun _ _ _ h => h) (by rfl) hHeld ?_
              try simp only [Act.put, List.setIfInBounds_toArray, List.set_cons_zero, List.set_cons_succ]
              refine held_off (i := 18) rfl (by kernel_rfl) (by kernel_rfl) (by kernel_rfl) (fun _ _ _ h => h) (by rfl) hHeld ?_
              try simp only [Act.put, List.setIfInBounds_toArray, List.set_cons_zero, List.set_cons_succ]
              refine held_off (i := 19) rfl (by kernel_rfl) (by kernel_rfl) (by kernel_rfl) (fun _ _ _ h => h) (by rfl) hHeld ?_
              try simp only [Act.put, List.setIfInBounds_toArray, List.set_cons_zero, List.set_cons_succ]
              refine held_off (i := 20) rfl (by kernel_rfl) (by kernel_rfl) (by kernel_rfl) (fun _ _ _ h => h) (by rfl) hHeld ?_
              try simp only [Act.put, List.setIfInBounds_toArray, List.set_cons_zero, List.set_cons_succ]
              refine held_off (i := 21) rfl (by kernel_rfl) (by kernel_rfl) (by kernel_rfl) (fun _ _ _ h => h) (by rfl) hHeld ?_
              try simp only [Act.put, List.setIfInBounds_toArray, List.set_cons_zero, List.set_cons_succ]
              refine held_off (i := 22) rfl (by kernel_rfl) (by kernel_rfl) (by kernel_rfl) (fun _ _ _ h => h) (by rfl) hHeld ?_
              try simp only [Act.put, List.setIfInBounds_toArray, List.set_cons_zero, List.set_cons_succ]
              refine held_take (i := 23) (v := ?_) rfl (by kernel_rfl) (by kernel_rfl) (by kernel_rfl) (fun _ _ _ h => h) (by rfl) hHeld ?y16_23 ?_
              case y16_23 => (intro w hSw; (try dsimp only at hSw); go_simp; try with_reducible rfl)
              try simp only [Act.put, List.setIfInBounds_toArray, List.set_cons_zero, List.set_cons_succ]
              refine wpAnyH_done (by kernel_rfl) ?_ _
              obtain ⟨c0, c1, c2, c3⟩ := HT1.out.cells
              obtain ⟨f0, f1, f2, f3⟩ := HT2.out.cells
              have hne2 : g2 ≠ g1 := fun h => hne h.symm
              go_wp2_with fail
              subst hk0
              refine ⟨⟨1, by omega, by rfl, ?_⟩, by first | (simp [intOf]; done) | (simp [intOf]; omega)⟩
              refine Lib.hid ((HBR.out.trans (HBX.out.mono HBR.out.size)).trans ?_)
              exact ((Below.setCell (B := w5.heap.size) (Below.refl _ wc) (p := ⟨g1, 1, none⟩) (Nat.le_trans HBR.out.size hg1) _).setCell (p := ⟨g2, 1, none⟩) (Nat.le_trans HBR.out.size hg2) _).drew
            · obtain ⟨x0, y0, adp, adq, l1, l2, i1, i2, px, qx⟩ := HPV.out (by omega)
              have hkp : (0 : Int) < (k : Int) := by omega
              have hwk : IntKind.i64.wrap ((k : Int) - 1) = ((k - 1 : Nat) : Int) := by rw [wrap_small _ (by omega) (by omega)]; omega
              have l1i : ¬ (x1 : Int) < (x0 : Int) := by omega
              have l2i : ¬ (y1 : Int) < (y0 : Int) := by omega
              have l1n : ¬ x1 < x0 := by omega
              have l2n : ¬ y1 < y0 := by omega
              have hkp2 : 0 < k := by omega
              go_upto_region 16 with fail
              refine wp_region_held_drew (S := fun X => X.cell? ⟨g1, 1, none⟩ = some (.int .i64 (x1 : Int)) ∧ X.cell? ⟨g2, 1, none⟩ = some (.int .i64 (y1 : Int)) ∧ X.cell? ⟨adp.block, adp.off + 1, none⟩ = some (.int .i64 (x0 : Int)) ∧ X.cell? ⟨adq.block, adq.off + 1, none⟩ = some (.int .i64 (y0 : Int))) (by kernel_rfl) ⟨t1, u1, px, qx⟩ (fun hHeld => ?_)
              refine held_take (i := 0) (v := ?_) rfl (by kernel_rfl) (by kernel_rfl) (by kernel_rfl) (fun _ _ _ h => h) (by rfl) hHeld ?y16_0 ?_
              case y16_0 => (intro w hSw; (try dsimp only at hSw); go_simp; try with_reducible rfl)
              try simp only [Act.put, List.setIfInBounds_toArray, List.set_cons_zero, List.set_cons_succ]
              refine held_take (i := 1) (v := ?_) rfl (by kernel_rfl) (by kernel_rfl) (by kernel_rfl) (fun _ _ _ h => h) (by rfl) hHeld ?y16_1 ?_
              case y16_1 => (intro w hSw; (try dsimp only at hSw); go_simp; try with_reducible rfl)
              try simp only [Act.put, List.setIfInBounds_toArray, List.set_cons_zero, List.set_cons_succ]
              refine held_take (i := 2) (v := ?_) rfl (by kernel_rfl) (by kernel_rfl) (by kernel_rfl) (fun _ _ _ h => h) (by rfl) hHeld ?y16_2 ?_
              case y16_2 => (intro w hSw; (try dsimp only at hSw); go_simp; try with_reducible rfl)
              try simp only [Act.put, List.setIfInBounds_toArray, List.set_cons_zero, List.set_cons_succ]
              refine held_take (i := 3) (v := ?_) rfl (by kernel_rfl) (by kernel_rfl) (by kernel_rfl) (fun _ _ _ h => h) (by rfl) hHeld ?y16_3 ?_
              case y16_3 => (intro w hSw; (try dsimp only at hSw); go_simp; try with_reducible rfl)
              try simp only [Act.put, List.setIfInBounds_toArray, List.set_cons_zero, List.set_cons_succ]
              refine held_take (i := 4) (v := ?_) rfl (by kernel_rfl) (by kernel_rfl) (by kernel_rfl) (fun _ _ _ h => h) (by rfl) hHeld ?y16_4 ?_
              case y16_4 => (intro w hSw; (try dsimp only at hSw); go_simp; try with_reducible rfl)
              try simp only [Act.put, List.setIfInBounds_toArray, List.set_cons_zero, List.set_cons_succ]
              refine held_take (i := 5) (v := ?_) rfl (by kernel_rfl) (by kernel_rfl) (by kernel_rfl) (fun _ _ _ h => h) (by rfl) hHeld ?y16_5 ?_
              case y16_5 => (intro w hSw; (try dsimp only at hSw); go_simp; try with_reducible rfl)
              try simp only [Act.put, List.setIfInBounds_toArray, List.set_cons_zero, List.set_cons_succ]
              refine held_take (i := 6) (v := ?_) rfl (by kernel_rfl) (by kernel_rfl) (by kernel_rfl) (fun _ _ _ h => h) (by rfl) hHeld ?y16_6 ?_
              case y16_6 => (intro w hSw; (try dsimp only at hSw); go_simp; try with_reducible rfl)
              try simp only [Act.put, List.setIfInBounds_toArray, List.set_cons_zero, List.set_cons_succ]
              refine held_take (i := 7) (v := ?_) rfl (by kernel_rfl) (by kernel_rfl) (by kernel_rfl) (fun _ _ _ h => h) (by rfl) hHeld ?y16_7 ?_
              case y16_7 => (intro w hSw; (try dsimp only at hSw); go_simp; try with_reducible rfl)
              try simp only [Act.put, List.setIfInBounds_toArray, List.set_cons_zero, List.set_cons_succ]
              refine held_take (i := 8) (v := ?_) rfl (by kernel_rfl) (by kernel_rfl) (by kernel_rfl) (fun _ _ _ h => h) (by rfl) hHeld ?y16_8 ?_
              case y16_8 => (intro w hSw; (try dsimp only at hSw); go_simp; try with_reducible rfl)
              try simp only [Act.put, List.setIfInBounds_toArray, List.set_cons_zero, List.set_cons_succ]
              refine held_take (i := 9) (v := ?_) rfl (by kernel_rfl) (by kernel_rfl) (by kernel_rfl) (fun _ _ _ h => h) (by rfl) hHeld ?y16_9 ?_
              case y16_9 => (intro w hSw; (try dsimp only at hSw); go_simp; try with_reducible rfl)
              try simp only [Act.put, List.setIfInBounds_toArray, List.set_cons_zero, List.set_cons_succ]
              refine held_take (i := 10) (v := ?_) rfl (by kernel_rfl) (by kernel_rfl) (by kernel_rfl) (fun _ _ _ h => h) (by rfl) hHeld ?y16_10 ?_
              case y16_10 => (intro w hSw; (try dsimp only at hSw); go_simp; try with_reducible rfl)
              try simp only [Act.put, List.setIfInBounds_toArray, List.set_cons_zero, List.set_cons_succ]
              refine held_take (i := 11) (v := ?_) rfl (by kernel_rfl) (by kernel_rfl) (by kernel_rfl) (fun _ _ _ h => h) (by rfl) hHeld ?y16_11 ?_
              case y16_11 => (intro w hSw; (try dsimp only at hSw); go_simp; try with_reducible rfl)
              try simp only [Act.put, List.setIfInBounds_toArray, List.set_cons_zero, List.set_cons_succ]
              refine held_take (i := 12) (v := ?_) rfl (by kernel_rfl) (by kernel_rfl) (by kernel_rfl) (fun _ _ _ h => h) (by rfl) hHeld ?y16_12 ?_
              case y16_12 => (intro w hSw; (try dsimp only at hSw); go_simp; try with_reducible rfl)
              try simp only [Act.put, List.setIfInBounds_toArray, List.set_cons_zero, List.set_cons_succ]
              refine held_take (i := 13) (v := ?_) rfl (by kernel_rfl) (by kernel_rfl) (by kernel_rfl) (fun _ _ _ h => h) (by rfl) hHeld ?y16_13 ?_
              case y16_13 => (intro w hSw; (try dsimp only at hSw); go_simp; try with_reducible rfl)
              try simp only [Act.put, List.setIfInBounds_toArray, List.set_cons_zero, List.set_cons_succ]
              refine held_take (i := 14) (v := ?_) rfl (by kernel_rfl) (by kernel_rfl) (by kernel_rfl) (fun _ _ _ h => h) (by rfl) hHeld ?y16_14 ?_
              case y16_14 => (intro w hSw; (try dsimp only at hSw); go_simp; try with_reducible rfl)
              try simp only [Act.put, List.setIfInBounds_toArray, List.set_cons_zero, List.set_cons_succ]
              refine held_take (i := 15) (v := ?_) rfl (by kernel_rfl) (by kernel_rfl) (by kernel_rfl) (fun _ _ _ h => h) (by rfl) hHeld ?y16_15 ?_
              case y16_15 => (intro w hSw; (try dsimp only at hSw); go_simp; try with_reducible rfl)
              try simp only [Act.put, List.setIfInBounds_toArray, List.set_cons_zero, List.set_cons_succ]
              refine held_take (i := 16) (v := ?_) rfl (by kernel_rfl) (by kernel_rfl) (by kernel_rfl) (fun _ _ _ h => h) (by rfl) hHeld ?y16_16 ?_
              case y16_16 => (intro w hSw; (try dsimp only at hSw); go_simp; try with_reducible rfl)
              try simp only [Act.put, List.setIfInBounds_toArray, List.set_cons_zero, List.set_cons_succ]
              refine held_take (i := 17) (v := ?_) rfl (by kernel_rfl) (by kernel_rfl) (by kernel_rfl) (fun _ _ _ h => h) (by rfl) hHeld ?y16_17 ?_
              case y16_17 => (intro w hSw; (try dsimp only at hSw); go_simp; try with_reducible rfl)
              try simp only [Act.put, List.setIfInBounds_toArray, List.set_cons_zero, List.set_cons_succ]
              refine held_take (i := 18) (v := ?_) rfl (by kernel_rfl) (by kernel_rfl) (by kernel_rfl) (fun _ _ _ h => h) (by rfl) hHeld ?y16_18 ?_
              case y16_18 => (intro w hSw; (try dsimp only at hSw); go_simp; try with_reducible rfl)
              try simp only [Act.put, List.setIfInBounds_toArray, List.set_cons_zero, List.set_cons_succ]
              refine held_take (i := 19) (v := ?_) rfl (by kernel_rfl) (by kernel_rfl) (by kernel_rfl) (fun _ _ _ h => h) (by rfl) hHeld ?y16_19 ?_
              case y16_19 => (intro w hSw; (try dsimp only at hSw); go_simp; try with_reducible rfl)
              try simp only [Act.put, List.setIfInBounds_toArray, List.set_cons_zero, List.set_cons_succ]
              refine held_take (i := 20) (v := ?_) rfl (by kernel_rfl) (by kernel_rfl) (by kernel_rfl) (fun _ _ _ h => h) (by rfl) hHeld ?y16_20 ?_
              case y16_20 => (intro w hSw; (try dsimp only at hSw); go_simp; try with_reducible rfl)
              try simp only [Act.put, List.setIfInBounds_toArray, List.set_cons_zero, List.set_cons_succ]
              refine held_take (i := 21) (v := ?_) rfl (by kernel_rfl) (by kernel_rfl) (by kernel_rfl) (fun _ _ _ h => h) (by rfl) hHeld ?y16_21 ?_
              case y16_21 => (intro w hSw; (try dsimp only at hSw); go_simp; try with_reducible rfl)
              try simp only [Act.put, List.setIfInBounds_toArray, List.set_cons_zero, List.set_cons_succ]
              refine held_take (i := 22) (v := ?_) rfl (by kernel_rfl) (by kernel_rfl) (by kernel_rfl) (fun _ _ _ h => h) (by rfl) hHeld ?y16_22 ?_
              case y16_22 => (intro w hSw; (try dsimp only at hSw); go_simp; try with_reducible rfl)
              try simp only [Act.put, List.setIfInBounds_toArray, List.set_cons_zero, List.set_cons_succ]
              refine held_take (i := 23) (v := ?_) rfl (by kernel_rfl) (by kernel_rfl) (by kernel_rfl) (fun _ _ _ h => h) (by rfl) hHeld ?y16_23 ?_
              case y16_23 => (intro w hSw; (try dsimp only at hSw); go_simp; try with_reducible rfl)
              try simp only [Act.put, List.setIfInBounds_toArray, List.set_cons_zero, List.set_cons_succ]
              refine wpAnyH_done (by kernel_rfl) ?_ _
              obtain ⟨c0, c1, c2, c3⟩ := HT1.out.cells
              obtain ⟨f0, f1, f2, f3⟩ := HT2.out.cells
              have hne2 : g2 ≠ g1 := fun h => hne h.symm
              go_wp2_with fail
              refine ⟨⟨k + 1, by omega, by push_cast; rfl, ?_⟩, by first | (simp [intOf]; done) | (simp [intOf]; omega)⟩
              refine Lib.hid ((HBR.out.trans (HBX.out.mono HBR.out.size)).trans ?_)
              exact ((Below.setCell (B := w5.heap.size) (Below.refl _ wc) (p := ⟨g1, 1, none⟩) (Nat.le_trans HBR.out.size hg1) _).setCell (p := ⟨g2, 1, none⟩) (Nat.le_trans HBR.out.size hg2) _).drew
        · have hke : k = ts.length := by omega
          subst hke
          have hkn : ¬ (ts.length : Int) < (ts.length : Int) := by omega
          obtain ⟨hl1, hl2⟩ := HLAST.out
          obtain ⟨a, c', ada, hv, hx1, hat1⟩ := (HRA5.out.below HBR.out).at_ hl1
          rw [hl2] at hat1
          injection hv with hv1 _ hv2
          subst hv1 hv2
          obtain ⟨p0, p1, -, -⟩ := hat1
          have hwk : IntKind.i64.wrap ((ts.length : Int) - 1) = ((ts.length - 1 : Nat) : Int) := by rw [wrap_small _ (by omega) (by omega)]; omega
          have hsz' : (a0.size : Int) = (s.length : Int) := by omega
          go_wp2_with fail
          go_ret
          exact ⟨rfl, HB5.out.trans (HBR.out.mono HB5.out.size)⟩
end Go.Proofs.YtekpmpghbeeeoaaGreatDoor
