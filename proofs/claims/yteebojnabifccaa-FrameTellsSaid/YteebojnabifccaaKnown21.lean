import Derived.Test.YteebojnabifccaaFrame3
/- The examples that each law of layer 21 runs first. -/
namespace Go.Proofs.Yteebojnabifccaa
open Go.RowKit Go.Proofs.YteebojnabifccaaW.PrintWords Go.Proofs.YteebojnabifccaaW.PrintMore

theorem RdB.reads {w : World} {A : Option Addr} {n c : Nat} {xs : List Int} (h : RdB w (.slice A n c) xs) : ReadsInt w .u8 A xs.length xs := by
  obtain ⟨A', c', e, _, hr⟩ := h
  injection e with e1 e2 e3
  rw [e1]; exact hr

theorem next_yes {v : Value} {bs : List Int} {w w' : World} {e : Ending} (h : NextP v bs w e w') (ok : NextOk bs) :
    ∃ x r, e = .returned (.tuple #[x, r, .int .i64 0]) ∧ OwnB w' w.heap.size x (nextX bs) ∧ RdB w' r (nextR bs) ∧ Below w.heap.size w w' := by
  rcases h with ⟨_, h⟩ | ⟨h, _⟩
  · exact h
  · exact absurd ok h
theorem next_no {v : Value} {bs : List Int} {w w' : World} {e : Ending} (h : NextP v bs w e w') (ok : ¬ NextOk bs) :
    e = .returned (.tuple #[.slice none 0 0, v, .int .i64 210]) ∧ Below w.heap.size w w' := by
  rcases h with ⟨h, _⟩ | ⟨_, h⟩
  · exact absurd h ok
  · exact h

set_option maxHeartbeats 800000 in
theorem known21 (w : World) : Calls Try.prog 26 #[] w fun e w' => e = .returned (.bool true) ∧ Below w.heap.size w w' := by
  have HB0 := Lib.hid (below_alloc (Below.refl _ w) (.cells (nums .u8 [97, 98]).toArray 5 (2, 3)))
  have Hl := Lib.hid (rd_lit w [97, 98] (2, 3) (by decide))
  obtain ⟨F, hF⟩ : ∃ F, frameB [97, 98] = F := ⟨_, rfl⟩
  have hFl : F.length = 10 := by rw [← hF, frameB_length]; rfl
  have hFb : By F := by rw [← hF]; exact frameB_by _ (by decide)
  have hok : NextOk (F ++ [7]) ∧ nextX (F ++ [7]) = [97, 98] ∧ nextR (F ++ [7]) = [7] := by rw [← hF]; exact frame_ok _ _ (by simp)
  have HF := Lib.hid hF
  have HOK := Lib.hid hok
  have Hl1 := Lib.hid (show (([] : List Int).length + 10) * 1 ≤ 140737488355328 from by decide)
  have Hl2 := Lib.hid (show (([] ++ F : List Int).length + 1) * 1 ≤ 140737488355328 from by simp; omega)
  have kc := conv_const
  clear hF hok
  go_enter Try.func26, Try.ntmps26
  go_wp2_with fail
  refine (frame_frame _ [97, 98] _ Hl.out (by decide) (by simp)).mono ?_
  rw [HF.out]
  rintro e w1 ⟨u, rfl, hu, hb⟩
  have HB1 := Lib.hid (HB0.out.trans (hb.mono HB0.out.size))
  obtain ⟨A, c, rfl, hcap, hrd⟩ := hu.rd
  have Hr := Lib.hid (show ReadsInt w1 .u8 A 10 F from hFl ▸ hrd)
  clear hu hb hrd
  go_wp2_with (first
    | (at_builtin; refine print_append_row (w0 := w1) w1.heap.size rfl _ _ _ _ .u8 1 rfl Try.underlying22 info8 (by omega) (.slice none 0 0) [] F A 10 c rfl rfl (own_nil _ _ _ _) Hr.out (Below.refl _ _) (Nat.le_refl _) Hl1.out ?_; intro v2 w2 ho2 hb2 hg2 hat2; have Ho2 := Lib.hid ho2; have Hb2 := Lib.hid hb2; clear ho2 hb2 hg2 hat2)
    | (at_builtin; refine print_append_row (w0 := w2.alloc (.cells #[.int .u8 7] 5)) w1.heap.size rfl _ _ _ _ .u8 1 rfl Try.underlying22 info8 (by omega) v2 ([] ++ F) [7] (some ⟨w2.heap.size, 0, none⟩) 1 1 rfl rfl (OwnB.below Ho2.out (below_alloc (Below.refl _ _) _)) (rd_lit w2 [7] _ (by decide)).reads (Below.refl _ _) (Nat.le_trans Hb2.out.size (by rw [World.size_alloc]; omega)) Hl2.out ?_; intro v3 w3 ho3 hb3 hg3 hat3))
  have HB3 := Lib.hid (HB1.out.trans (((Hb2.out.alloc Hb2.out.size _).trans hb3).mono HB1.out.size))
  have Hr3 := Lib.hid (Hr.out.below ((Hb2.out.alloc Hb2.out.size _).trans hb3))
  rw [List.nil_append] at ho3
  refine (frame_next v3 (F ++ [7]) w3 (OwnB.rd ho3) (by exact hFb.append (by decide))).mono ?_
  intro e w4 hn
  obtain ⟨x, r, rfl, hx, hr, hb⟩ := next_yes hn HOK.out.1
  rw [HOK.out.2.1] at hx
  rw [HOK.out.2.2] at hr
  have HB4 := Lib.hid (HB3.out.trans (hb.mono HB3.out.size))
  obtain ⟨Ax, cx, rfl, hcx, hrx⟩ := hx.rd
  obtain ⟨Ar, cr, rfl, hcr, hrr⟩ := hr
  have Hr4 := Lib.hid (Hr3.out.below hb)
  obtain ⟨ts, hts, ht1, ht2, ht3⟩ := cut_to (xs := F) (c := c) hcap (by rw [hFl]; exact Hr4.out) .i64 5 (by omega) (by omega)
  have Ht2 := Lib.hid ht2
  have hrx' := Lib.hid hrx
  have htb : By ts := by rw [hts]; exact hFb.take _
  have htl : Hid (ts.length < 8) := Lib.hid (by omega)
  rw [hFl] at ht1
  clear hn hb hx ho3 hb3 hg3 hat3 Hb2 Ho2 hts ht2 hrx hrr
  go_wp2_with fail
  refine (frame_next _ ts w4 Ht2.out htb).mono ?_
  intro e w5 hn
  obtain ⟨rfl, hb⟩ := next_no hn (short_bad ts htl.out)
  have HB5 := Lib.hid (HB4.out.trans (hb.mono HB4.out.size))
  have hcv : (convert 22 9 (.slice Ax 2 cx)).run Try.prog w5 = .ok (.string ⟨#[97, 98]⟩) w5 :=
    conv_bytes_string (P := Try.prog) 22 5 9 Try.underlying22 Try.underlying5 Try.underlying9 (hrx'.out.below hb) cx
  clear hn hb
  go_wp2
  go_ret
  exact ⟨rfl, HB5.out⟩
end Go.Proofs.Yteebojnabifccaa
