import Derived.Test.YteebojnabifccaaRowsMath
import Derived.Test.YteebojnabifccaaOpen3
import Derived.Test.YteebojnabifccaaSealMath
import Derived.Test.YteebojnabifccaaKnown21
import Derived.StillTailTactics
/- FrameRows: a row of frames, cut off anywhere, bears all that are whole, and tells where the first torn one begins. -/
namespace Go.Proofs.Yteebojnabifccaa
open Go.RowKit Go.Proofs.YteebojnabifccaaW.PrintWords Go.Proofs.YteebojnabifccaaW.PrintMore

theorem info64 : (Try.prog.info? 3).map (fun i => (i.zero, i.size, i.bytes)) = some (some (.int .i64 0), 1, 8) := by kernel_rfl
/-- A row of numbers that is owned. -/
def OwnI (w : World) (base : Nat) (v : Value) (xs : List Int) : Prop := w.ownsRow base 3 1 v xs.length (nums .i64 xs)
theorem rd_one (W : World) (x : Int) (t : TypeId) : ReadsInt (W.alloc (.cells #[.int .i64 x] t)) .i64 (some ⟨W.heap.size, 0, none⟩) 1 [x] :=
  ⟨rfl, by decide, fun _ => ⟨_, rfl, fun j hj => by
    obtain rfl : j = 0 := by simpa using hj
    exact cell_one_new W _ t 0 _ rfl⟩⟩
def endsOf (ls : List (List Int)) (k : Nat) : List Int := (List.range k).map fun j => ((fsum ls (j + 1) : Nat) : Int)
theorem endsOf_length (ls : List (List Int)) (k : Nat) : (endsOf ls k).length = k := by simp [endsOf]
theorem endsOf_snoc (ls : List (List Int)) (k : Nat) : endsOf ls (k + 1) = endsOf ls k ++ [((fsum ls (k + 1) : Nat) : Int)] := by
  unfold endsOf
  rw [List.range_succ, List.map_append]
  rfl
theorem fsum_bound (ls : List (List Int)) (k : Nat) (hk : k ≤ ls.length) (h : ∀ j, j < k → (ls.getD j []).length ≤ 100) : fsum ls k ≤ 108 * k := by
  induction k with
  | zero => simp [fsum]
  | succ k ih =>
    have := ih (by omega) (fun j hj => h j (by omega))
    have := h k (by omega)
    rw [fsum_snoc ls k (by omega)]
    omega

theorem RdBB.take {w : World} {A : Option Addr} {c : Nat} {ls : List (List Int)} (h : RdBB w (.slice A ls.length c) ls) {n : Nat} (hn : n ≤ ls.length) : RdBB w (.slice A n c) (ls.take n) := by
  obtain ⟨A', c', e, hc, hm, hr⟩ := h
  injection e with e1 _ e3
  subst e1 e3
  have hl : (ls.take n).length = n := by rw [List.length_take, Nat.min_eq_left hn]
  refine ⟨A, c, by rw [hl], by rw [hl]; omega, by rw [hl]; omega, fun h0 => ?_⟩
  rw [hl] at h0
  obtain ⟨ad, he, hr⟩ := hr (by omega)
  refine ⟨ad, he, fun i hi => ?_⟩
  rw [hl] at hi
  obtain ⟨u, h1, h2⟩ := hr i (by omega)
  refine ⟨u, h1, ?_⟩
  rw [show (ls.take n).getD i [] = ls.getD i [] from by simp [List.getD_eq_getElem?_getD, hi]]
  exact h2

set_option maxHeartbeats 1000000 in
set_option maxRecDepth 100000 in
theorem frameRows_walk (v : Value) (ls : List (List Int)) (cut : Int) (w : World) (hr : RdBB w v ls) (hby : ∀ l ∈ ls, By l) (_hz : ls.length ≤ 9223372036854775807) (hcut : 0 ≤ cut ∧ cut < 65536) :
    Calls Try.prog 12 #[v, .int .u16 cut] w fun e w' => e = .returned (.bool true) ∧ Below w.heap.size w w' := by
  have hr0 := hr
  obtain ⟨A, c, rfl, hc, hm, hrd⟩ := hr
  have Hr := Lib.hid hrd
  have Hr0 := Lib.hid hr0
  clear hrd hr0
  by_cases h20 : 20 < ls.length
  · go_enter Try.func12, Try.ntmps12
    go_wp2_with (go_at_call 26; refine (known21 _).mono ?_; rintro e w1 ⟨rfl, hb1⟩)
    go_ret
    exact ⟨rfl, hb1⟩
  go_enter Try.func12, Try.ntmps12
  go_wp2_with (go_at_call 26; refine (known21 _).mono ?_; rintro e w1 ⟨rfl, hb1⟩)
  go_loopw [5, 6, 7] (fun u z i wr => ∃ k : Nat, k ≤ ls.length ∧ i = .int .i64 k ∧ OwnB wr w.heap.size u (fcat (ls.take k)) ∧ OwnI wr w.heap.size z (endsOf ls k) ∧ Below w.heap.size w wr ∧ (∀ j, j < k → (ls.getD j []).length ≤ 100)) (fun _ _ i _ => ls.length - (intOf i).toNat)
  case atStart => exact ⟨0, Nat.zero_le _, rfl, OwnB.nil _ _, World.ownsRow_nil _ _ _ _, hb1, fun i h => absurd h (by omega)⟩
  case round =>
    obtain ⟨k, hk, rfl, hown, hown2, hB, hss⟩ := hrel
    have HS := Lib.hid hss
    have HB := Lib.hid hB
    have HO := Lib.hid hown
    have HO2 := Lib.hid hown2
    clear hss hb1 hB hown hown2
    by_cases hlt : k < ls.length
    · obtain ⟨ad, rfl, hcell⟩ := Hr.out (by omega)
      obtain ⟨x, hx1, hx2⟩ := hcell k hlt
      replace hx1 := pw_cell_below HB.out hx1
      have hxb : By (ls.getD k []) := by rw [List.getD_eq_getElem?_getD, List.getElem?_eq_getElem hlt]; exact hby _ (List.getElem_mem hlt)
      have hxr := hx2.below HB.out
      obtain ⟨Ax, cx, rfl, hcx, hrx⟩ := hx2.below HB.out
      have hi1 : ∀ W, (Instr.indexAt 59 (.slice (some ad) ls.length c) (.int .i64 (k : Int))).run Try.prog W = .ok (.pointer (some (ad.add k))) W := fun W => by
        have h2 : 0 ≤ (k : Int) ∧ (k : Int) < (ls.length : Int) := ⟨by omega, by omega⟩
        go_simp
      have Hcat := Lib.hid (fcat_snoc ls k hlt)
      have Hsum := Lib.hid (fsum_snoc ls k hlt)
      have Hfl : Hid ((fcat (ls.take k)).length = fsum ls k) := Lib.hid (by rw [fcat_length, List.length_take, Nat.min_eq_left hk, fsum_take _ _ _ (Nat.le_refl _)])
      have Hbd := Lib.hid (fsum_bound ls k hk HS.out)
      obtain ⟨xs, hxs⟩ : ∃ xs, ls.getD k [] = xs := ⟨_, rfl⟩
      have HX := Lib.hid hxs
      rw [hxs] at hx1 hxb hrx hxr Hcat Hsum
      have Hrx := Lib.hid hxr
      clear hxs hcell hx2 hrx hxr
      by_cases h100 : 100 < xs.length
      · go_wp2
        go_ret
        exact ⟨rfl, HB.out⟩
      · go_wp2_with fail
        refine (frame_frame _ xs wr Hrx.out hxb (by omega)).mono ?_
        rintro e w2 ⟨v2, rfl, ho2, hb2⟩
        obtain ⟨F, hF⟩ : ∃ F, frameB xs = F := ⟨_, rfl⟩
        have HFl : Hid (F.length = xs.length + 8) := Lib.hid (by rw [← hF, frameB_length])
        rw [hF] at ho2 Hcat
        obtain ⟨Cs, hCs⟩ : ∃ Cs, fcat (ls.take k) = Cs := ⟨_, rfl⟩
        rw [hCs] at HO Hcat Hfl
        have ho1' : OwnB w2 w.heap.size u5 Cs := OwnB.below HO.out hb2
        have ho2' : OwnI w2 w.heap.size u6 (endsOf ls k) := row_same HO2.out (fun j hj _ => hb2.block j hj)
        have HB2 := Lib.hid (HB.out.trans (hb2.mono HB.out.size))
        obtain ⟨Af, cf, rfl, hcf, hrf⟩ := ho2.rd
        have hCl := Hfl.out
        have hbd := Hbd.out
        have hfl := HFl.out
        have HO' := Lib.hid ho1'
        have HE' := Lib.hid ho2'
        have Hrf := Lib.hid hrf
        have Hlen : Hid ((Cs.length + F.length) * 1 ≤ 140737488355328) := Lib.hid (by omega)
        clear ho2 hb2 ho1' ho2' hrf hCl hbd hfl
        have Hel : Hid (((endsOf ls k).length + 1) * 8 ≤ 140737488355328) := Lib.hid (by rw [endsOf_length]; omega)
        have prep : ∀ v3 w3, w3.ownsRow w.heap.size 5 1 v3 (Cs ++ F).length (nums .u8 (Cs ++ F)) → Below w.heap.size w2 w3 → w2.grownBy w3 u5.ownBlock →
            ∃ A3 c3 D, v3 = .slice A3 D.length c3 ∧ D.length ≤ 9223372036854775807 ∧ Hid (Cs ++ F = D) ∧ Hid (D.length = fsum ls (k + 1)) ∧ Hid (OwnB w3 w.heap.size (.slice A3 D.length c3) D) ∧ Hid (Below w.heap.size w w3) ∧ Hid (OwnI w3 w.heap.size u6 (endsOf ls k)) ∧
              Hid (ReadsInt (w3.alloc (.cells #[.int .i64 (D.length : Int)] 3)) .i64 (some ⟨w3.heap.size, 0, none⟩) 1 [(D.length : Int)]) ∧ Hid (OwnI (w3.alloc (.cells #[.int .i64 (D.length : Int)] 3)) w.heap.size u6 (endsOf ls k)) ∧ Hid (w.heap.size ≤ (w3.alloc (.cells #[.int .i64 (D.length : Int)] 3)).heap.size) := by
          intro v3 w3 ho3 hb3 hg3
          have hDl : (Cs ++ F).length = fsum ls (k + 1) := by rw [List.length_append, Hfl.out, HFl.out, Hsum.out]
          have HE3 : OwnI w3 w.heap.size u6 (endsOf ls k) := row_same HE'.out (fun j hj hjo => hg3.block j hj (fun e => by
            rcases rows_apart HE'.out HO'.out (by decide) with h | h
            · rw [h] at hjo; cases hjo
            · exact h (hjo.symm.trans e)))
          have HB3 := HB2.out.trans hb3
          have hbd := Hbd.out
          have hsm := Hsum.out
          obtain ⟨D, hD⟩ : ∃ D, Cs ++ F = D := ⟨_, rfl⟩
          rw [hD] at ho3 hDl
          have ho3' : OwnB w3 w.heap.size v3 D := ho3
          have hrd := ho3'.rd
          obtain ⟨A3, c3, rfl, -, -⟩ := hrd
          exact ⟨A3, c3, D, rfl, by omega, Lib.hid hD, Lib.hid hDl, Lib.hid ho3', Lib.hid HB3, Lib.hid HE3, Lib.hid (rd_one w3 _ _), Lib.hid (World.ownsRow.alloc HE3 _), Lib.hid (by have := HB3.size; simp; omega)⟩
        have HP := Lib.hid prep
        clear prep hF
        go_wp2_with (first | (at_builtin; refine print_append_row (w0 := w2) w.heap.size rfl _ _ _ _ .u8 1 rfl Try.underlying22 info8 (by omega) u5 Cs F Af F.length cf rfl rfl HO'.out Hrf.out (Below.refl _ _) HB2.out.size Hlen.out ?_; intro v3 w3 ho3 hb3 hg3 hat3; obtain ⟨A3, c3, D, rfl, hDb, HD, HDl, Ho3, HB3, HE3, hone, HE4, hsz4⟩ := HP.out v3 w3 ho3 hb3 hg3; clear ho3 hb3 hg3 hat3) | (at_builtin; refine print_append_row (w0 := w3.alloc (.cells #[.int .i64 (D.length : Int)] 3)) w.heap.size rfl _ _ _ _ .i64 8 rfl Try.underlying60 info64 (by omega) u6 (endsOf ls k) [(D.length : Int)] (some ⟨w3.heap.size, 0, none⟩) 1 1 rfl rfl HE4.out hone.out (Below.refl _ _) hsz4.out Hel.out ?_; intro v4 w4 ho4 hb4 hg4 hat4))
        go_roundw
        case rel =>
          refine ⟨k + 1, by omega, by go_num, ?_, ?_, ?_, ?_⟩
          · rw [Hcat.out, HD.out]
            refine row_same Ho3.out (fun j hj hjo => ?_)
            refine (hg4.block j (by simp; omega) (fun e => ?_)).trans (Below.heap_alloc _ _ _ hj)
            rcases rows_apart Ho3.out HE3.out (by decide) with h | h
            · rw [h] at hjo; cases hjo
            · exact h (hjo.symm.trans e)
          · rw [endsOf_snoc, ← HDl.out]
            exact ho4
          · exact (HB3.out.alloc HB3.out.size _).trans hb4
          · intro j hj
            rcases Nat.lt_or_ge j k with h | h
            · exact HS.out j h
            · rw [show j = k from by omega, HX.out]; omega
        case measure => simp [intOf]; omega
    · have hkn : k = ls.length := by omega
      subst hkn
      rw [List.take_length] at HO
      obtain ⟨B, hBd⟩ : ∃ B, fcat ls = B := ⟨_, rfl⟩
      have HBd := Lib.hid hBd
      rw [hBd] at HO
      have hBl : B.length = fsum ls ls.length := by rw [← hBd, fcat_length]
      have hbd := fsum_bound ls ls.length (Nat.le_refl _) HS.out
      have hBby : By B := by rw [← hBd]; exact fcat_by hby
      obtain ⟨q, hq⟩ := Int.eq_ofNat_of_zero_le (show 0 ≤ cut % ((B.length : Int) + 1) from Int.emod_nonneg _ (by omega))
      have hqB : q ≤ B.length := by have := Int.emod_lt_of_pos cut (show 0 < (B.length : Int) + 1 by omega); omega
      have htm : cut.tmod ((B.length : Int) + 1) = (q : Int) := (Int.tmod_eq_emod_of_nonneg hcut.1).trans hq
      obtain ⟨Ab, cb, rfl, hcb, hrb⟩ := HO.out.rd
      have Hrb := Lib.hid hrb
      obtain ⟨ts, hts, ht1, ht2, ht3⟩ := cut_to hcb hrb .i64 (q : Int) (by omega) (by omega)
      have Hts := Lib.hid hts
      have Ht2 := Lib.hid ht2
      obtain ⟨E, hE⟩ : ∃ E, endsOf ls ls.length = E := ⟨_, rfl⟩
      have hEl : E.length = ls.length := by rw [← hE, endsOf_length]
      have hEg : ∀ j, j < ls.length → E.getD j 0 = ((fsum ls (j + 1) : Nat) : Int) := fun j hj => by rw [← hE]; simp [endsOf, List.getD_eq_getElem?_getD, hj]
      rw [hE] at HO2
      obtain ⟨Ae, ce, rfl, hre⟩ := own_reads (k := .i64) (n := E.length) HO2.out
      rw [hEl] at hre
      obtain ⟨-, -, hre⟩ := hre
      have Hre := Lib.hid hre
      have HEg := Lib.hid hEg
      clear hts ht2 hrb hBd hre hEg hE HO2 HO
      rw [hEl]
      obtain ⟨i22, hi22, hz22, hs22, hb22⟩ := info_parts info22
      have htk := fun (j : Int) h0 hm => (print_take_of (P := Try.prog) (fun _ : List Int => Value.slice none 0 0) [] 59 22 .i64 Try.underlying59 hi22 hs22 A c ls j h0 hm hc).1
      have Htk := Lib.hid htk
      clear htk hi22 hz22 hs22 hb22 i22
      have HBl := Lib.hid hBl
      have Hbd := Lib.hid hbd
      have hBb : B.length ≤ 2160 := by omega
      have Hq : Hid (q ≤ B.length) := Lib.hid hqB
      have hq2 : (q : Int) ≤ 2160 := by omega
      clear hBl hbd hqB hlt
      go_wp2_with fail
      go_loop [9, 10] (fun i a => ∃ n : Nat, n ≤ ls.length ∧ i = .int .i64 n ∧ a = .int .i64 ((fsum ls n : Nat) : Int) ∧ fsum ls n ≤ q) (fun i _ => ls.length - (intOf i).toNat)
      case atStart => exact ⟨0, Nat.zero_le _, rfl, by simp [fsum], by simp [fsum]⟩
      case round =>
        obtain ⟨n, hn, rfl, rfl, hnq⟩ := hrel
        have Hnq := Lib.hid hnq
        clear hnq
        by_cases hgo : n < ls.length ∧ fsum ls (n + 1) ≤ q
        · obtain ⟨hlt, hle⟩ := hgo
          obtain ⟨ad, rfl, hce⟩ := Hre.out (by omega)
          have hc1 := hce n hlt
          rw [HEg.out n hlt] at hc1
          obtain ⟨f1, hf1⟩ : ∃ f1, fsum ls (n + 1) = f1 := ⟨_, rfl⟩
          have HF1 := Lib.hid hf1
          rw [hf1] at hc1 hle
          have hle' : (f1 : Int) ≤ (q : Int) := by omega
          have hlt' : (n : Int) < (ls.length : Int) := by omega
          have hi2 : ∀ W, (Instr.indexAt 60 (.slice (some ad) ls.length ce) (.int .i64 (n : Int))).run Try.prog W = .ok (.pointer (some (ad.add n))) W := fun W => by
            have h2 : 0 ≤ (n : Int) ∧ (n : Int) < (ls.length : Int) := ⟨by omega, by omega⟩
            go_simp
          clear hce hf1
          go_wp2
          go_round
          case rel => exact ⟨n + 1, by omega, by go_num, by rw [HF1.out], by rw [HF1.out]; omega⟩
          case measure => simp [intOf]; omega
        · have hor : n = ls.length ∨ q < fsum ls (n + 1) := by omega
          obtain ⟨l1, l2, l3⟩ := rows_law ls (fun l hl => by
            obtain ⟨j, hj, rfl⟩ := List.getElem_of_mem hl
            have := HS.out j hj
            rw [List.getD_eq_getElem?_getD, List.getElem?_eq_getElem hj] at this
            simp only [Option.getD_some] at this
            omega) q n hn Hnq.out (by rw [HBd.out]; exact Hq.out) hor
          rw [HBd.out] at l1 l2 l3
          have hall := frame_all (.slice Ab ts.length cb) (B.take q) wr (by rw [← Int.toNat_natCast q, ← Hts.out]; exact Ht2.out) (hBby.take q) (by rw [List.length_take]; omega)
          have HA := Lib.hid hall
          have HL : Hid (AllN (B.take q) n ∧ rowsOf (B.take q) n = ls.take n ∧ (restAt (B.take q) n).length + fsum ls n = q) := Lib.hid ⟨l1, l2, l3⟩
          clear l1 l2 l3 hall
          have Hn : Hid (n ≤ ls.length) := Lib.hid hn
          by_cases hnl : n = ls.length
          · have hge : (ls.length : Int) ≤ (n : Int) := by omega
            clear hnl hor hgo
            go_wp2_with fail
            refine HA.out.mono ?_
            rintro e w5 ⟨n', v5, hN, rfl, hrd5, hb5⟩
            obtain rfl := hN.unique HL.out.1
            rw [HL.out.2.1] at hrd5
            have hat : ((B.take q).length : Int) - (restAt (B.take q) n').length = ((fsum ls n' : Nat) : Int) := by
              have h1 := HL.out.2.2
              have h2 := Hq.out
              rw [List.length_take]
              omega
            rw [hat]
            have HB5 := Lib.hid (HB.out.trans (hb5.mono HB.out.size))
            have hby5 : ∀ l ∈ ls.take n', By l := fun l hl => hby l (List.mem_of_mem_take hl)
            have hrt := (Hr0.out.below (HB5.out)).take Hn.out
            obtain ⟨LT, hLT⟩ : ∃ LT, ls.take n' = LT := ⟨_, rfl⟩
            rw [hLT] at hrd5 hby5 hrt
            have htx := Lib.hid ((texts_is v5 (.slice A n' c) LT LT w5 hrd5 hrt hby5 hby5).mono (fun e w' h => (⟨h.1.trans (by rw [decide_eq_true rfl]), h.2⟩ : e = .returned (.bool true) ∧ Below w5.heap.size w5 w')))
            obtain ⟨A5, c5, rfl, -, -, -⟩ := hrd5
            have hsl : ∀ W, (Instr.slice 59 (.slice A ls.length c) none (some (.int .i64 (n' : Int))) none).run Try.prog W = .ok (.slice A n' c) W := fun W => by
              have := Htk.out n' (by omega) (by have := Hn.out; omega) W
              rwa [Int.toNat_natCast, List.length_take, Nat.min_eq_left Hn.out] at this
            clear hat hN hb5 hby5 hrt hLT
            go_wp2_with fail
            refine htx.out.mono ?_
            rintro e w6 ⟨rfl, hb6⟩
            go_wp2
            go_ret
            exact ⟨rfl, HB5.out.trans (hb6.mono HB5.out.size)⟩
          · have hlt : n < ls.length := by omega
            obtain ⟨ad, rfl, hce⟩ := Hre.out (by omega)
            have hc1 := hce n hlt
            rw [HEg.out n hlt] at hc1
            have hlt2 : q < fsum ls (n + 1) := by omega
            obtain ⟨f1, hf1⟩ : ∃ f1, fsum ls (n + 1) = f1 := ⟨_, rfl⟩
            rw [hf1] at hc1 hlt2
            have hgt : (q : Int) < (f1 : Int) := by omega
            have hlt' : (n : Int) < (ls.length : Int) := by omega
            have hi2 : ∀ W, (Instr.indexAt 60 (.slice (some ad) ls.length ce) (.int .i64 (n : Int))).run Try.prog W = .ok (.pointer (some (ad.add n))) W := fun W => by
              have h2 : 0 ≤ (n : Int) ∧ (n : Int) < (ls.length : Int) := ⟨by omega, by omega⟩
              go_simp
            clear hce hf1 hnl hor hgo hlt2 hlt
            go_wp2_with fail
            refine HA.out.mono ?_
            rintro e w5 ⟨n', v5, hN, rfl, hrd5, hb5⟩
            obtain rfl := hN.unique HL.out.1
            rw [HL.out.2.1] at hrd5
            have hat : ((B.take q).length : Int) - (restAt (B.take q) n').length = ((fsum ls n' : Nat) : Int) := by
              have h1 := HL.out.2.2
              have h2 := Hq.out
              rw [List.length_take]
              omega
            rw [hat]
            have HB5 := Lib.hid (HB.out.trans (hb5.mono HB.out.size))
            have hby5 : ∀ l ∈ ls.take n', By l := fun l hl => hby l (List.mem_of_mem_take hl)
            have hrt := (Hr0.out.below (HB5.out)).take Hn.out
            obtain ⟨LT, hLT⟩ : ∃ LT, ls.take n' = LT := ⟨_, rfl⟩
            rw [hLT] at hrd5 hby5 hrt
            have htx := Lib.hid ((texts_is v5 (.slice A n' c) LT LT w5 hrd5 hrt hby5 hby5).mono (fun e w' h => (⟨h.1.trans (by rw [decide_eq_true rfl]), h.2⟩ : e = .returned (.bool true) ∧ Below w5.heap.size w5 w')))
            obtain ⟨A5, c5, rfl, -, -, -⟩ := hrd5
            have hsl : ∀ W, (Instr.slice 59 (.slice A ls.length c) none (some (.int .i64 (n' : Int))) none).run Try.prog W = .ok (.slice A n' c) W := fun W => by
              have := Htk.out n' (by omega) (by have := Hn.out; omega) W
              rwa [Int.toNat_natCast, List.length_take, Nat.min_eq_left Hn.out] at this
            clear hat hN hb5 hby5 hrt hLT
            go_wp2_with fail
            refine htx.out.mono ?_
            rintro e w6 ⟨rfl, hb6⟩
            go_wp2
            go_ret
            exact ⟨rfl, HB5.out.trans (hb6.mono HB5.out.size)⟩
end Go.Proofs.Yteebojnabifccaa
