import Derived.Test.YteebojnabifccaaFrameRef
/- The document's All. -/
namespace Go.Proofs.Yteebojnabifccaa
open Go.RowKit Go.Proofs.YteebojnabifccaaW.PrintWords Go.Proofs.YteebojnabifccaaW.PrintMore

abbrev SlV := Option Addr × Nat × Nat
def slv (s : SlV) : Value := .slice s.1 s.2.1 s.2.2
theorem rd_slv (W : World) (s : SlV) (t : TypeId) : ReadsOf slv (none, 0, 0) (W.alloc (.cells #[slv s] t)) (some ⟨W.heap.size, 0, none⟩) 1 [s] :=
  ⟨rfl, by decide, fun _ => ⟨_, rfl, fun j hj => by
    obtain rfl : j = 0 := by simpa using hj
    exact cell_one_new W _ t 0 _ rfl⟩⟩

theorem drop_len (bs : List Int) (m : Nat) : bs.drop (bs.length - (bs.drop m).length) = bs.drop m := by
  rw [List.length_drop]
  rcases Nat.le_total m bs.length with h | h
  · rw [show bs.length - (bs.length - m) = m from by omega]
  · rw [List.drop_of_length_le h, show bs.length - (bs.length - m) = bs.length from by omega, List.drop_length]
theorem restAt_drop (bs : List Int) : ∀ k, ∃ m, restAt bs k = bs.drop m
  | 0 => ⟨0, rfl⟩
  | k + 1 => by
    obtain ⟨m, hm⟩ := restAt_drop bs k
    refine ⟨m + 8 + (val ((restAt bs k).take 4)).toNat, ?_⟩
    show nextR (restAt bs k) = _
    unfold nextR
    rw [List.drop_drop, hm, List.drop_drop]
    congr 1
    omega
theorem restAt_at (bs : List Int) (k : Nat) : bs.drop (bs.length - (restAt bs k).length) = restAt bs k ∧ (restAt bs k).length ≤ bs.length := by
  obtain ⟨m, hm⟩ := restAt_drop bs k
  rw [hm]
  exact ⟨drop_len bs m, by rw [List.length_drop]; omega⟩

set_option maxHeartbeats 1000000 in
theorem ref21_all (v : Value) (bs : List Int) (w : World) (hr : RdB w v bs) (hby : By bs) (hlen : bs.length ≤ 1000000000000) :
    Calls Try.prog 34 #[v] w (AllP bs w) := by
  have hr0 := Lib.hid hr
  obtain ⟨A, c, rfl, hcap, hread⟩ := hr
  have Hr := Lib.hid hread
  clear hread
  go_enter Try.func34, Try.ntmps34
  go_wp2_with fail
  go_loopw [4, 5] (fun u i wr => ∃ (k : Nat) (us : List SlV), us.length = k ∧ i = .int .i64 ((bs.length : Int) - (restAt bs k).length) ∧ wr.ownsRow w.heap.size 22 1 u us.length (encs slv us) ∧
      (∀ j y, us[j]? = some y → Tr (.slice A bs.length c) bs (slv y) (nextX (restAt bs j))) ∧ (∀ j, j < k → NextOk (restAt bs j)) ∧ Below w.heap.size w wr) (fun _ i _ => bs.length - (intOf i).toNat)
  case atStart => exact ⟨0, [], rfl, by simp [restAt], World.ownsRow_nil _ _ _ _, fun j y h => by simp at h, fun j h => absurd h (by omega), Below.refl _ _⟩
  case round =>
    obtain ⟨k, us, hus, rfl, ho, hT, hok, hB⟩ := hrel
    have HO := Lib.hid ho
    have HT := Lib.hid hT
    have HOK := Lib.hid hok
    have HB := Lib.hid hB
    have Hus := Lib.hid hus
    obtain ⟨hdr, hle⟩ := restAt_at bs k
    have hsum := restAt_sum hok
    obtain ⟨R, hR⟩ : ∃ R, restAt bs k = R := ⟨_, rfl⟩
    have HR := Lib.hid hR
    rw [hR] at hdr hle hsum ⊢
    have hRby : By R := by rw [← hR]; exact restAt_by hby k
    obtain ⟨ds, A1, c1, hds, hd1, hdT, hd3⟩ := cut_fromT hcap .i64 ((bs.length : Int) - R.length) (by omega) (by omega)
    have hds2 : ds = R := by
      rw [hds, show ((bs.length : Int) - R.length).toNat = bs.length - R.length from by omega]
      exact hdr
    subst hds2
    have hrw := hdT wr (ReadsInt.below Hr.out HB.out)
    have HdT := Lib.hid hdT
    have hnx := Lib.hid (ref21_next (.slice A1 ds.length c1) ds wr hrw hRby)
    clear hds hdr hd3 hrw hdT hR ho hT hok hB hus
    go_wp2_with fail
    refine hnx.out.mono ?_
    rintro e w2 (⟨hn, x, r, rfl, hTx, hTr, hb2⟩ | ⟨hn, rfl, hb2⟩)
    · have HB2 := Lib.hid (HB.out.trans (hb2.mono HB.out.size))
      have hr1 := HdT.out w2 (ReadsInt.below Hr.out HB2.out)
      obtain ⟨Ax, cx, rfl, -, -⟩ := hTx w2 hr1
      obtain ⟨Ar, cr, rfl, -, -⟩ := hTr w2 hr1
      have Hlr : Hid ((nextR ds).length + 8 ≤ ds.length) := Lib.hid (by
        have h8 := hn.1
        unfold nextR
        simp only [List.length_drop]
        omega)
      obtain ⟨X, hX⟩ : ∃ X, nextX ds = X := ⟨_, rfl⟩
      obtain ⟨Y, hY⟩ : ∃ Y, nextR ds = Y := ⟨_, rfl⟩
      have HX := Lib.hid hX
      have HY := Lib.hid hY
      rw [hX] at hTx ⊢
      rw [hY] at Hlr ⊢
      have HTx := Lib.hid hTx
      have Hn := Lib.hid hn
      have hYl : Y.length ≤ bs.length := by have := Hlr.out; omega
      have HO2 : Hid (w2.ownsRow w.heap.size 22 1 u4 us.length (encs slv us)) := Lib.hid (row_same HO.out (fun j hj _ => hb2.block j hj))
      have hul := Hus.out
      have Hul : Hid ((us.length + 1) * 24 ≤ 140737488355328) := Lib.hid (by omega)
      have HO3 : Hid ((w2.alloc (.cells #[.slice Ax X.length cx] 22)).ownsRow w.heap.size 22 1 u4 us.length (encs slv us)) := Lib.hid (World.ownsRow.alloc HO2.out _)
      have Hsz : Hid (w.heap.size ≤ (w2.alloc (.cells #[.slice Ax X.length cx] 22)).heap.size) := Lib.hid (by have := HB2.out.size; simp; omega)
      have Hone := Lib.hid (rd_slv w2 (Ax, X.length, cx) 22)
      clear hn hTx hTr hr1 hX hY hul hb2
      go_wp2_with (at_builtin; refine print_append_row_of (w0 := w2.alloc (.cells #[.slice Ax X.length cx] 22)) slv (none, 0, 0) w.heap.size rfl _ _ _ _ (.slice none 0 0) 24 rfl Try.underlying59 info22 rfl (by omega) (fun _ => rfl) u4 us [(Ax, X.length, cx)] (some ⟨w2.heap.size, 0, none⟩) 1 1 rfl rfl HO3.out Hone.out (Below.refl _ _) Hsz.out Hul.out ?_; intro v4 w4 ho4 hb4 hg4 hat4)
      go_roundw
      case rel =>
        have h1 : restAt bs (k + 1) = Y := by
          show nextR (restAt bs k) = Y
          rw [HR.out, HY.out]
        refine ⟨k + 1, us ++ [(Ax, X.length, cx)], by rw [List.length_append, Hus.out]; rfl, by rw [h1], ho4, ?_, ?_, (HB2.out.alloc HB2.out.size _).trans hb4⟩
        · intro j y hj
          rcases Nat.lt_or_ge j us.length with h | h
          · rw [List.getElem?_append_left h] at hj
            exact HT.out j y hj
          · rw [List.getElem?_append_right h] at hj
            have hj0 : j = us.length := by
              rcases Nat.lt_or_ge (j - us.length) 1 with h' | h'
              · omega
              · rw [List.getElem?_eq_none (by simpa using h')] at hj; cases hj
            subst hj0
            simp only [Nat.sub_self, List.getElem?_cons_zero, Option.some.injEq] at hj
            subst hj
            rw [Hus.out, HR.out, HX.out]
            intro W h
            obtain ⟨A', c', e, _, h'⟩ := h
            cases e
            exact HTx.out W (HdT.out W h')
        · intro j hj
          rcases Nat.lt_or_ge j k with h | h
          · exact HOK.out j h
          · rw [show j = k from by omega, HR.out]; exact Hn.out
      case measure => have := Hlr.out; simp [intOf]; omega
    · have HB2 := Lib.hid (HB.out.trans (hb2.mono HB.out.size))
      go_wp2
      go_ret2
      refine ⟨k, u4, ⟨HOK.out, by rw [HR.out]; exact hn⟩, by rw [HR.out]; rfl, ?_, HB2.out⟩
      have ho2 := row_same (Y := w2) HO.out (fun j hj _ => hb2.block j hj)
      have hel : (encs slv us).length = us.length := by simp [encs]
      refine RdBB.of_own (us := encs slv us) (by rw [hel, Hus.out]; simp [rowsOf]) (by rw [hel]; have := Hus.out; omega) (by rw [hel]; exact ho2) (fun j y hy => ?_)
      have hjl : j < us.length := by rw [← hel]; exact (List.getElem?_eq_some_iff.1 hy).1
      have hy2 : y = slv us[j] := by
        simp [encs, List.getElem?_eq_getElem hjl] at hy
        exact hy.symm
      have hk : j < k := by have := Hus.out; omega
      rw [show (rowsOf bs k).getD j [] = nextX (restAt bs j) from by simp [rowsOf, List.getD_eq_getElem?_getD, hk], hy2]
      exact HT.out j _ (List.getElem?_eq_getElem hjl) w2 (hr0.out.below HB2.out)
end Go.Proofs.Yteebojnabifccaa
