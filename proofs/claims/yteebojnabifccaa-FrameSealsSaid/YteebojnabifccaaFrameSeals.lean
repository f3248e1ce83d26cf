import Derived.Test.YteebojnabifccaaSealMath
import Derived.Test.YteebojnabifccaaKnown21
import Derived.StillTailTactics
/- FrameSeals: what was sealed is unsealed by its kind alone; with one byte turned, cut, or more behind it, by none. -/
namespace Go.Proofs.Yteebojnabifccaa
open Go.RowKit Go.Proofs.YteebojnabifccaaW.PrintWords Go.Proofs.YteebojnabifccaaW.PrintMore

theorem unseal_yes {k : Int} {bs : List Int} {w w' : World} {e : Ending} (h : UnsealP k bs w e w') (ok : UnsealOk k bs) :
    ∃ x, e = .returned (.tuple #[x, .int .i64 0]) ∧ RdB w' x (nextX bs).tail ∧ Below w.heap.size w w' := by
  rcases h with ⟨_, h⟩ | ⟨h, _⟩
  · exact h
  · exact absurd ok h
theorem unseal_no {k : Int} {bs : List Int} {w w' : World} {e : Ending} (h : UnsealP k bs w e w') (ok : ¬ UnsealOk k bs) :
    e = .returned (.tuple #[.slice none 0 0, .int .i64 210]) ∧ Below w.heap.size w w' := by
  rcases h with ⟨h, _⟩ | ⟨_, h⟩
  · exact absurd h ok
  · exact h
theorem unseal_any {k : Int} {bs : List Int} {w w' : World} {e : Ending} (h : UnsealP k bs w e w') (b : Bool) (hb : b = true ↔ UnsealOk k bs) :
    ∃ x c, e = .returned (.tuple #[x, .int .i64 c]) ∧ (c == 0) = b ∧ Below w.heap.size w w' := by
  rcases h with ⟨ok, x, rfl, _, hw⟩ | ⟨no, rfl, hw⟩
  · exact ⟨x, 0, rfl, (hb.2 ok).symm, hw⟩
  · refine ⟨_, 210, rfl, ?_, hw⟩
    cases b with
    | false => rfl
    | true => exact absurd (hb.1 rfl) no

set_option maxHeartbeats 1000000 in
set_option maxRecDepth 100000 in
theorem frameSeals_walk (v : Value) (xs : List Int) (k k' at_ y : Int) (w : World) (hr : RdB w v xs) (hby : By xs) (hz : xs.length ≤ 140737488351232)
    (hk : 0 ≤ k ∧ k < 256) (hk' : 0 ≤ k' ∧ k' < 256) (ha : 0 ≤ at_ ∧ at_ < 65536) (hy : 0 ≤ y ∧ y < 256) :
    Calls Try.prog 11 #[v, .int .u8 k, .int .u8 k', .int .u16 at_, .int .u8 y] w fun e w' => e = .returned (.bool true) ∧ Below w.heap.size w w' := by
  have Hr := Lib.hid hr
  by_cases h300 : 300 < xs.length
  · obtain ⟨A, c, rfl, hcap, hread⟩ := hr
    clear hread
    go_enter Try.func11, Try.ntmps11
    go_wp2_with (go_at_call 26; refine (known21 _).mono ?_; rintro e w1 ⟨rfl, hb1⟩)
    go_ret
    exact ⟨rfl, hb1⟩
  obtain ⟨A, c, rfl, hcap, hread⟩ := hr
  clear hread
  have hxl : xs.length < 400000 := by omega
  obtain ⟨S, hS⟩ : ∃ S, frameB (k :: xs) = S := ⟨_, rfl⟩
  have hSl : S.length = xs.length + 9 := by rw [← hS, frameB_length]; rfl
  have hkx : By (k :: xs) := fun z hz => by rcases List.mem_cons.1 hz with h | h; exact h ▸ hk; exact hby z h
  have hSb : By S := by rw [← hS]; exact frameB_by _ hkx
  have HSl := Lib.hid hSl
  have hpos : 0 < S.length := by omega
  have hmax : S.length ≤ 400 := by omega
  obtain ⟨j, hj⟩ : ∃ j, at_ % (S.length : Int) = j := ⟨_, rfl⟩
  have hj0 : 0 ≤ j := by rw [← hj]; exact Int.emod_nonneg _ (by omega)
  have hj1 : j < S.length := by rw [← hj]; exact Int.emod_lt_of_pos _ (by omega)
  obtain ⟨jj, rfl⟩ := Int.eq_ofNat_of_zero_le hj0
  have U1 : Hid (UnsealOk k S ∧ (nextX S).tail = xs) := Lib.hid (by rw [← hS]; exact ⟨(unseal_frame k k xs hxl).2 rfl, unseal_bears k xs hxl⟩)
  have U2 : Hid ((k == k') = true ↔ UnsealOk k' S) := Lib.hid (by rw [← hS, unseal_frame k k' xs hxl, beq_iff_eq]; exact eq_comm)
  have hsj := hSb.at_ (k := jj) (by omega)
  obtain ⟨sj, hsjE⟩ : ∃ sj, S.getD jj 0 = sj := ⟨_, rfl⟩
  rw [hsjE] at hsj
  have hx8 := xor8 sj y hsj hy
  have U3 : Hid ((y == 0) = true ↔ UnsealOk k (S.set jj (bits .xor .u8 sj y))) := Lib.hid (by
    rw [beq_iff_eq]
    constructor
    · intro h; rw [h, hx8.2.2, set_same (by omega) hsjE.symm]; exact U1.out.1
    · intro h
      by_cases he : bits .xor .u8 sj y = sj
      · exact hx8.2.1 he
      · have := unseal_turned k k xs hkx hxl jj (by omega) (bits .xor .u8 sj y) hx8.1 (by rw [hS, hsjE]; exact he)
        rw [hS] at this
        exact absurd h this)
  have U4 : Hid (¬ UnsealOk k (S.take jj)) := Lib.hid (by rw [← hS]; exact unseal_cut k k xs hxl jj (by omega))
  have U5 : Hid (¬ UnsealOk k (S ++ [y])) := Lib.hid (by rw [← hS]; exact unseal_more k k y xs hxl)
  have Hl1 := Lib.hid (show (([] : List Int).length + S.length) * 1 ≤ 140737488355328 from by simp; omega)
  have Hl2 := Lib.hid (show ((S : List Int).length + 1) * 1 ≤ 140737488355328 from by omega)
  have Hby3 : Hid (By (S.set jj (bits .xor .u8 sj y))) := Lib.hid (hSb.set _ _ hx8.1)
  have Hby5 : Hid (By (S ++ [y])) := Lib.hid (hSb.append (fun z hz => by rw [List.mem_singleton.1 hz]; exact hy))
  have HS := Lib.hid hS
  have Hsj := Lib.hid hsjE
  clear hS hSl hsjE hx8 hsj
  go_enter Try.func11, Try.ntmps11
  go_wp2_with (go_at_call 26; refine (known21 _).mono ?_; rintro e w1 ⟨rfl, hb1⟩)
  have HB1 := Lib.hid hb1
  clear hb1
  refine (frame_seal k (.slice A xs.length c) xs w1 hk (Hr.out.below HB1.out) hby (by omega)).mono ?_
  rw [HS.out]
  rintro e w2 ⟨v2, rfl, ho2, hb2⟩
  have HB2 := Lib.hid (HB1.out.trans (hb2.mono HB1.out.size))
  obtain ⟨As, cs, rfl, hcs, hrs⟩ := ho2.rd
  have Hs2 := Lib.hid hrs
  clear ho2 hb2 hrs
  go_wp2_with fail
  refine (frame_unseal k (.slice As S.length cs) S w2 hk ⟨As, cs, rfl, hcs, Hs2.out⟩ hSb).mono ?_
  intro e w3 hu
  obtain ⟨x3, rfl, hx3, hb3⟩ := unseal_yes hu U1.out.1
  rw [U1.out.2] at hx3
  have HB3 := Lib.hid (HB2.out.trans (hb3.mono HB2.out.size))
  have Hs3 := Lib.hid (Hs2.out.below hb3)
  obtain ⟨Ax, cx, rfl, hcx, hrx⟩ := hx3
  have Hx3 := Lib.hid hrx
  clear hu hb3 hrx Hs2
  go_wp2_with fail
  refine (frame_unseal k' (.slice As S.length cs) S w3 hk' ⟨As, cs, rfl, hcs, Hs3.out⟩ hSb).mono ?_
  intro e w4 hu
  obtain ⟨x4, cF, rfl, hF, hb4⟩ := unseal_any hu _ U2.out
  have HB4 := Lib.hid (HB3.out.trans (hb4.mono HB3.out.size))
  have Hs4 := Lib.hid (Hs3.out.below hb4)
  have Hx4 := Lib.hid (Hx3.out.below hb4)
  have HF := Lib.hid hF
  clear hu hb4 hF Hs3 Hx3
  go_wp2_with (at_builtin; refine print_append_row (w0 := w4) w4.heap.size rfl _ _ _ _ .u8 1 rfl Try.underlying22 info8 (by omega) (.slice none 0 0) [] S As S.length cs rfl rfl (own_nil _ _ _ _) Hs4.out (Below.refl _ _) (Nat.le_refl _) Hl1.out ?_; intro v5 w5 ho5 hb5 hg5 hat5)
  rw [List.nil_append] at ho5
  obtain ⟨g, cap, rfl, hgb, hgl⟩ := ho5.form hpos
  have HB5 := Lib.hid (HB4.out.trans (hb5.mono HB4.out.size))
  have Hb5 := Lib.hid hb5
  obtain ⟨hc1, hf1⟩ := own_at ho5 (jj : Int) (by omega) (by omega)
  have hrd : rd S (jj : Int) = sj := by unfold rd; rw [Int.toNat_natCast, ← Hsj.out]
  rw [hrd, Int.toNat_natCast] at hc1
  rw [Int.toNat_natCast] at hf1
  have Ho5 := Lib.hid ho5
  clear ho5 hb5 hg5 hat5 hrd hj
  have hidx : ∀ W, (Instr.indexAt 22 (.slice (some ⟨g, 0, none⟩) S.length cap) (.int .i64 (jj : Int))).run Try.prog W = .ok (.pointer (some ⟨g, jj, none⟩)) W := fun W => by
    have h2 : 0 ≤ (jj : Int) ∧ (jj : Int) < (S.length : Int) := ⟨hj0, hj1⟩
    have h3 : ({ block := g, off := 0, spot := none } : Addr).add jj = ⟨g, jj, none⟩ := by
      unfold Addr.add; split <;> simp_all
    go_simp
  go_wp2_with fail
  rw [hidx]
  go_wp2_with fail
  have hst := (own_store Ho5.out (jj : Int) (bits .xor .u8 sj y)).1
  rw [Int.toNat_natCast] at hst
  have hb6 : Below w4.heap.size w5 (w5.setCell ⟨g, jj, none⟩ (.int .u8 (bits .xor .u8 sj y))) := (Below.refl _ _).setCell (p := ⟨g, jj, none⟩) hgb _
  have hbd6 : OwnB (w5.setCell ⟨g, jj, none⟩ (.int .u8 (bits .xor .u8 sj y))) w4.heap.size (.slice (some ⟨g, 0, none⟩) (S.set jj (bits .xor .u8 sj y)).length cap) (S.set jj (bits .xor .u8 sj y)) := by
    unfold OwnB; rw [List.length_set]; exact hst
  have hrd6 := hbd6.rd
  rw [List.length_set] at hrd6
  have HB6 := Lib.hid (HB5.out.trans (hb6.mono HB4.out.size))
  have Hs6 := Lib.hid (Hs4.out.below (Hb5.out.trans hb6))
  have Hx6 := Lib.hid (Hx4.out.below (Hb5.out.trans hb6))
  have Hr6 := Lib.hid (Hr.out.below HB6.out)
  have Hrd6 := Lib.hid hrd6
  clear hst hb6 hbd6 hrd6 hc1 hf1 Hs4 Hx4 Ho5 Hb5 hidx
  generalize w5.setCell ⟨g, jj, none⟩ (.int .u8 (bits .xor .u8 sj y)) = w6 at *
  refine (frame_unseal k _ (S.set jj (bits .xor .u8 sj y)) w6 hk Hrd6.out Hby3.out).mono ?_
  intro e w7 hu
  obtain ⟨x7, cG, rfl, hG, hb7⟩ := unseal_any hu _ U3.out
  have HG := Lib.hid hG
  have HB7 := Lib.hid (HB6.out.trans (hb7.mono HB6.out.size))
  have Hs7 := Lib.hid (Hs6.out.below hb7)
  have Hx7 := Lib.hid (Hx6.out.below hb7)
  have Hr7 := Lib.hid (Hr.out.below HB7.out)
  obtain ⟨ts, hts, htc, htr, _⟩ := cut_to hcs Hs7.out .i64 (jj : Int) hj0 (by omega)
  have Htr := Lib.hid htr
  rw [Int.toNat_natCast] at hts
  have htb : By ts := by rw [hts]; exact hSb.take _
  have Hts : Hid (¬ UnsealOk k ts) := Lib.hid (by rw [hts]; exact U4.out)
  clear hu hG hb7 Hrd6 Hs6 Hx6 Hr6 hts htr
  go_wp2_with fail
  refine (frame_unseal k _ ts w7 hk Htr.out htb).mono ?_
  intro e w8 hu
  obtain ⟨rfl, hb8⟩ := unseal_no hu Hts.out
  have HB8 := Lib.hid (HB7.out.trans (hb8.mono HB7.out.size))
  have Hs8 := Lib.hid (Hs7.out.below hb8)
  have Hx8 := Lib.hid (Hx7.out.below hb8)
  clear hu hb8 Hs7 Hx7 Hr7 Htr htc
  go_wp2_with (first
    | (at_builtin; refine print_append_row (w0 := w8) w8.heap.size rfl _ _ _ _ .u8 1 rfl Try.underlying22 info8 (by omega) (.slice none 0 0) [] S As S.length cs rfl rfl (own_nil _ _ _ _) Hs8.out (Below.refl _ _) (Nat.le_refl _) Hl1.out ?_; intro v9 w9 ho9 hb9 hg9 hat9; rw [List.nil_append] at ho9; have Ho9 := Lib.hid ho9; have Hb9 := Lib.hid hb9; clear ho9 hb9 hg9 hat9)
    | (at_builtin; refine print_append_row (w0 := w9.alloc (.cells #[.int .u8 y] 5)) w8.heap.size rfl _ _ _ _ .u8 1 rfl Try.underlying22 info8 (by omega) v9 S [y] (some ⟨w9.heap.size, 0, none⟩) 1 1 rfl rfl (OwnB.below Ho9.out (below_alloc (Below.refl _ _) _)) (rd_lit w9 [y] _ (by simp)).reads (Below.refl _ _) (Nat.le_trans Hb9.out.size (by rw [World.size_alloc]; omega)) Hl2.out ?_; intro v10 w10 ho10 hb10 hg10 hat10))
  have hb8 := (Hb9.out.alloc Hb9.out.size (.cells #[.int .u8 y] 5)).trans hb10
  have HB10 := Lib.hid (HB8.out.trans (hb8.mono HB8.out.size))
  have Hx10 := Lib.hid (Hx8.out.below hb8)
  have Hr10 := Lib.hid (Hr.out.below HB10.out)
  refine (frame_unseal k _ (S ++ [y]) w10 hk (OwnB.rd ho10) Hby5.out).mono ?_
  intro e w11 hu
  obtain ⟨rfl, hb11⟩ := unseal_no hu U5.out
  have HB11 := Lib.hid (HB10.out.trans (hb11.mono HB10.out.size))
  have hc1 : (convert 22 9 (.slice Ax xs.length cx)).run Try.prog w11 = .ok (.string (strOfNums xs)) w11 :=
    conv_bytes_string (P := Try.prog) 22 5 9 Try.underlying22 Try.underlying5 Try.underlying9 (Hx10.out.below hb11) cx
  have hc2 : (convert 22 9 (.slice A xs.length c)).run Try.prog w11 = .ok (.string (strOfNums xs)) w11 :=
    conv_bytes_string (P := Try.prog) 22 5 9 Try.underlying22 Try.underlying5 Try.underlying9 ((Hr10.out.reads).below hb11) c
  have hF := HF.out
  have hG := HG.out
  clear hu hb8 hb10 ho10 hg10 hat10 hb11 HF HG
  go_wp2
  go_ret
  exact ⟨rfl, HB11.out⟩
end Go.Proofs.Yteebojnabifccaa
