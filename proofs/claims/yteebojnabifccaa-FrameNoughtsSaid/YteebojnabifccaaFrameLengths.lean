import Derived.Test.YteebojnabifccaaSealMath
import Derived.Test.YteebojnabifccaaKnown21
import Derived.StillTailTactics
/- FrameLengths: a frame's length is told by its first four bytes; a length too large is none. -/
namespace Go.Proofs.Yteebojnabifccaa
open Go.RowKit Go.Proofs.YteebojnabifccaaW.PrintWords Go.Proofs.YteebojnabifccaaW.PrintMore

theorem or600 : ∀ m : Fin 600, bits .or .i64 ((m.val : Int) % 256) ((m.val : Int) / 256 * 256) = m.val ∧ bits .or .i64 (m.val : Int) 0 = m.val := by decide +kernel
theorem rd_row {W : World} {base g n cap : Nat} {B : List Int} (h : W.ownsRow base 5 1 (.slice (some ⟨g, 0, none⟩) n cap) n (nums .u8 B)) (hl : B.length = n) : RdB W (.slice (some ⟨g, 0, none⟩) n cap) B := by
  subst hl; exact OwnB.rd h
theorem bad_list (l s t : List Int) (hl : l.length = 4) (a b c d : Int) : ((((l ++ (s ++ t)).set 0 a).set 1 b).set 2 c).set 3 d = [a, b, c, d] ++ (s ++ t) := by
  match l, hl with
  | [_, _, _, _], _ => rfl
theorem bad_none (xs : List Int) (hx : By xs) (hz : xs.length < 600) (k : Int) (h0 : (xs.length : Int) < k) (h1 : k < 200000) :
    ¬ NextOk (((((frameB xs).set 0 (k % 256)).set 1 (k / 256 % 256)).set 2 (k / 65536)).set 3 (k / 16777216)) ∧
    By (((((frameB xs).set 0 (k % 256)).set 1 (k / 256 % 256)).set 2 (k / 65536)).set 3 (k / 16777216)) := by
  rw [frameB_parts', bad_list _ _ _ (le_length _ _)]
  have hv : val [k % 256, k / 256 % 256, k / 65536, k / 16777216] = k := by simp only [val]; omega
  constructor
  · rw [nextOk_parts _ _ _ rfl (le_length _ _), hv]
    rintro ⟨_, h, _⟩
    omega
  · refine By.append (fun z hz => ?_) ((le_by _ _).append hx)
    simp only [List.mem_cons, List.not_mem_nil, or_false] at hz
    rcases hz with rfl | rfl | rfl | rfl <;> omega
theorem noughts_by (m : Nat) : By (List.replicate m 0) := fun x hx => by rw [(List.mem_replicate.1 hx).2]; decide

set_option maxHeartbeats 400000 in
set_option maxRecDepth 100000 in
theorem frameLengths_walk (n more : Int) (w : World) (hn : 0 ≤ n ∧ n < 65536) (hm : 0 ≤ more ∧ more < 4294967296) :
    Calls Try.prog 10 #[.int .u16 n, .int .u32 more] w fun e w' => e = .returned (.bool true) ∧ Below w.heap.size w w' := by
  obtain ⟨m', hm'⟩ : ∃ m', n % 600 = m' := ⟨_, rfl⟩
  obtain ⟨m, rfl⟩ := Int.eq_ofNat_of_zero_le (show 0 ≤ m' by omega)
  have hm600 : m < 600 := by omega
  obtain ⟨F, hF⟩ : ∃ F, frameB (List.replicate m 0) = F := ⟨_, rfl⟩
  have hFl : F.length = m + 8 := by rw [← hF, frameB_length, List.length_replicate]
  have hFb : By F := by rw [← hF]; exact frameB_by _ (noughts_by m)
  have hok : NextOk F ∧ nextX F = List.replicate m 0 ∧ nextR F = [] := by
    have := frame_ok (List.replicate m 0) [] (by rw [List.length_replicate]; omega)
    rw [List.append_nil, hF] at this
    exact this
  have HOK := Lib.hid hok
  have HF := Lib.hid hF
  have HFl := Lib.hid hFl
  have mk : ∀ W : World, (Instr.makeSlice 22 (.int .i64 (m : Int)) (.int .i64 (m : Int))).run Try.prog W = .ok (.slice (some ⟨W.heap.size, 0, none⟩) m m) (W.alloc (.cells (madeCells #[.int .u8 0] m) 5)) :=
    print_make 22 5 .u8 1 Try.underlying22 info8 (by omega) m (by omega)
  clear hok hF hFl
  go_enter Try.func10, Try.ntmps10
  go_wp2_with (go_at_call 26; refine (known21 _).mono ?_; rintro e w1 ⟨rfl, hb1⟩)
  have HB1 := Lib.hid (hb1.alloc hb1.size (.cells (madeCells #[.int .u8 0] m) 5))
  have hown := own_made' w1 w1.heap.size 5 .u8 m (Nat.le_refl _) (by omega)
  have hmr : RdB (w1.alloc (.cells (madeCells #[.int .u8 0] m) 5)) (.slice (some ⟨w1.heap.size, 0, none⟩) m m) (List.replicate m 0) := OwnB.rd hown
  refine (frame_frame _ (List.replicate m 0) _ hmr (noughts_by m) (by rw [List.length_replicate]; omega)).mono ?_
  rw [HF.out]
  rintro e w2 ⟨v2, rfl, ho2, hb2⟩
  have HB2 := Lib.hid (HB1.out.trans (hb2.mono HB1.out.size))
  obtain ⟨A, c, rfl, hcap, hrd⟩ := ho2.rd
  have Hr2 := Lib.hid hrd
  have hF8 : 8 ≤ F.length := by have := HFl.out; omega
  have hF9 : F.length ≤ 608 := by have := HFl.out; omega
  clear ho2 hb2 hrd hmr hown hb1
  go_wp2_with fail
  refine (frame_next _ F w2 ⟨A, c, rfl, hcap, Hr2.out⟩ hFb).mono ?_
  intro e w3 hu
  obtain ⟨x3, r3, rfl, hx3, hr3, hb3⟩ := next_yes hu HOK.out.1
  rw [HOK.out.2.1] at hx3
  rw [HOK.out.2.2] at hr3
  have HB3 := Lib.hid (HB2.out.trans (hb3.mono HB2.out.size))
  obtain ⟨Ax, cx, rfl, hcx, hrx⟩ := hx3.rd
  obtain ⟨Ar, cr, rfl, hcr, hrr⟩ := hr3
  rw [List.length_replicate]
  have hr3 := Hr2.out.below hb3
  obtain ⟨ad, rfl, hcell⟩ := hr3.2.2 (by omega)
  have Hr3 := Lib.hid hr3
  have hw : ∀ i, i < 4 → F.getD i 0 = (le (m : Int) 4).getD i 0 := fun i hi => by
    rw [← HF.out, frameB_parts', List.getD_eq_getElem?_getD, List.getD_eq_getElem?_getD, List.getElem?_append_left (by rw [le_length]; omega), List.length_replicate]
  have c0 := (congrArg w3.cell? (if_pos rfl : ad.add 0 = ad)).symm.trans (hcell 0 (by omega))
  have c1 := hcell 1 (by omega)
  have c2 := hcell 2 (by omega)
  have c3 := hcell 3 (by omega)
  rw [hw 0 (by omega), show (le (m : Int) 4).getD 0 0 = (m : Int) % 256 by simp [le]] at c0
  rw [hw 1 (by omega), show (le (m : Int) 4).getD 1 0 = (m : Int) / 256 by (simp [le]; omega)] at c1
  rw [hw 2 (by omega), show (le (m : Int) 4).getD 2 0 = 0 by (simp [le]; omega)] at c2
  rw [hw 3 (by omega), show (le (m : Int) 4).getD 3 0 = 0 by (simp [le]; omega)] at c3
  have ha : ∀ i, 0 < i → ad.add i = ⟨ad.block, ad.off + i, none⟩ := fun i hi => if_neg (by omega)
  rw [ha 1 (by omega)] at c1
  rw [ha 2 (by omega)] at c2
  rw [ha 3 (by omega)] at c3
  have w0 : IntKind.i64.wrap ((m : Int) % 256) = (m : Int) % 256 := by rw [IntKind.wrap_i64]; omega
  have w1 : IntKind.i64.wrap ((m : Int) / 256) = (m : Int) / 256 := by rw [IntKind.wrap_i64]; omega
  have w5 : IntKind.i64.wrap ((m : Int) / 256 * 256) = (m : Int) / 256 * 256 := by rw [IntKind.wrap_i64]; omega
  have w4 : IntKind.i64.wrap 0 = 0 := by decide
  have o1 := (or600 ⟨m, hm600⟩).1
  have o2 := (or600 ⟨m, hm600⟩).2
  dsimp only at o1 o2
  have Hl1 := Lib.hid (show (([] : List Int).length + F.length) * 1 ≤ 140737488355328 from by simp; omega)
  have hpos : 0 < F.length := by omega
  clear hw hcell hx3 hr3 hu hb3 hrx hrr Hr2 ha
  have h8 : ∀ W, (Instr.indexAt 22 (.slice (some ad) F.length c) (.int .i64 0)).run Try.prog W = .ok (.pointer (some ad)) W := fun W => by
    have h2 : (0 : Int) < (F.length : Int) := by omega
    have h3 : ad.add 0 = ad := if_pos rfl
    have h4 : ¬ F = [] := by intro e; rw [e] at hF8; simp at hF8
    go_simp
  have h81 : ∀ W, (Instr.indexAt 22 (.slice (some ad) F.length c) (.int .i64 1)).run Try.prog W = .ok (.pointer (some ⟨ad.block, ad.off + 1, none⟩)) W := fun W => by
    have h2 : (1 : Int) < (F.length : Int) := by omega
    have h3 : ad.add 1 = ⟨ad.block, ad.off + 1, none⟩ := if_neg (by omega)
    go_simp
  have h82 : ∀ W, (Instr.indexAt 22 (.slice (some ad) F.length c) (.int .i64 2)).run Try.prog W = .ok (.pointer (some ⟨ad.block, ad.off + 2, none⟩)) W := fun W => by
    have h2 : (2 : Int) < (F.length : Int) := by omega
    have h3 : ad.add 2 = ⟨ad.block, ad.off + 2, none⟩ := if_neg (by omega)
    go_simp
  have h83 : ∀ W, (Instr.indexAt 22 (.slice (some ad) F.length c) (.int .i64 3)).run Try.prog W = .ok (.pointer (some ⟨ad.block, ad.off + 3, none⟩)) W := fun W => by
    have h2 : (3 : Int) < (F.length : Int) := by omega
    have h3 : ad.add 3 = ⟨ad.block, ad.off + 3, none⟩ := if_neg (by omega)
    go_simp
  go_wp2_with fail
  go_still_tail 22, (by kernel_rfl)
  obtain ⟨q, hq⟩ : ∃ q, more % 100000 = q := ⟨_, rfl⟩
  have hq0 : 0 ≤ q ∧ q < 100000 := by omega
  obtain ⟨hq1, hq2⟩ := hq0
  go_wp2_with (at_builtin; refine print_append_row (w0 := w3.drew) w3.heap.size rfl _ _ _ _ .u8 1 rfl Try.underlying22 info8 (by omega) (.slice none 0 0) [] F (some ad) F.length c rfl rfl (own_nil _ _ _ _) (Hr3.out.below (Below.refl _ _).drew) (Below.refl _ _) (Nat.le_refl _) Hl1.out ?_; intro v5 w6 ho5 hb5 hg5 hat5; rw [List.nil_append] at ho5; obtain ⟨g, cap, rfl, hgb, hgl⟩ := ho5.form hpos; have Ho5 := Lib.hid ho5; have Hb5 := Lib.hid hb5; clear ho5 hb5 hg5 hat5; have i0 := idx_own g F.length cap 0 (by omega); have i1 := idx_own g F.length cap 1 (by omega); have i2 := idx_own g F.length cap 2 (by omega); have i3 := idx_own g F.length cap 3 (by omega); have g0 := own_get Ho5.out 0 (by omega); have g1 := fun x => own_get (own_set Ho5.out 0 x) 1 (by omega); have g2 := fun x y => own_get (own_set (own_set Ho5.out 0 x) 1 y) 2 (by omega); have g3 := fun x y z => own_get (own_set (own_set (own_set Ho5.out 0 x) 1 y) 2 z) 3 (by omega); obtain ⟨g00, g01⟩ := g0; have g10 := fun x => (g1 x).1; have g11 := fun x => (g1 x).2; have g20 := fun x y => (g2 x y).1; have g21 := fun x y => (g2 x y).2; have g30 := fun x y z => (g3 x y z).1; have g31 := fun x y z => (g3 x y z).2; clear g1 g2 g3 c0 c1 c2 c3 h8 h81 h82 h83 w0 w1 w5 w4 o1 o2 mk)
  have hbad := bad_none (List.replicate m 0) (noughts_by m) (by rw [List.length_replicate]; omega) ((m : Int) + q + 1) (by rw [List.length_replicate]; omega) (by omega)
  rw [HF.out] at hbad
  have hst := own_set (own_set (own_set (own_set Ho5.out 0 (((m : Int) + q + 1) % 256)) 1 (((m : Int) + q + 1) / 256 % 256)) 2 (((m : Int) + q + 1) / 65536)) 3 (((m : Int) + q + 1) / 16777216)
  obtain ⟨B, hB⟩ : ∃ B, (((F.set 0 (((m : Int) + q + 1) % 256)).set 1 (((m : Int) + q + 1) / 256 % 256)).set 2 (((m : Int) + q + 1) / 65536)).set 3 (((m : Int) + q + 1) / 16777216) = B := ⟨_, rfl⟩
  have hBl : B.length = F.length := by rw [← hB]; simp only [List.length_set]
  rw [hB] at hst hbad
  have hrd := rd_row hst hBl
  have hb6 := ((((Hb5.out.setCell (p := ⟨g, 0, none⟩) hgb (.int .u8 (((m : Int) + q + 1) % 256))).setCell (p := ⟨g, 1, none⟩) hgb (.int .u8 (((m : Int) + q + 1) / 256 % 256))).setCell (p := ⟨g, 2, none⟩) hgb (.int .u8 (((m : Int) + q + 1) / 65536))).setCell (p := ⟨g, 3, none⟩) hgb (.int .u8 (((m : Int) + q + 1) / 16777216)))
  refine (frame_next _ B _ hrd hbad.2).mono ?_
  intro e w9 hu
  obtain ⟨rfl, hb9⟩ := next_no hu hbad.1
  have HB9 := Lib.hid (HB3.out.trans (((Below.refl _ _).drew.trans hb6 |>.mono HB3.out.size).trans (hb9.mono (Nat.le_trans HB3.out.size hb6.size))))
  have hlen : ((F.length : Int) == (m : Int) + 8) = true := by rw [beq_iff_eq, HFl.out]; omega
  clear hu hb9 hb6 hrd hst hbad hB hBl i0 i1 i2 i3 g00 g01 g10 g11 g20 g21 g30 g31
  go_wp2
  go_ret
  exact ⟨rfl, HB9.out⟩
end Go.Proofs.Yteebojnabifccaa
