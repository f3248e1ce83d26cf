import Derived.Test.YthgjpppbpgndcaaDoorChainTagsMath
/- hornbooklaw11.ChainTags. -/
namespace Go.Proofs.YthgjpppbpgndcaaDoor
open Go.RowKit Go.Maps Go.Shelf Go.Proofs.YthgjpppbpgndcaaDoorW.PrintWords Go.Proofs.YthgjpppbpgndcaaDoorW.PrintMore
variable {B p : Nat} {w0 w w' : World} {F : FM}

theorem under_len (h : Ft B p w0 F w) (t : Nm) {n : Nat} (hn : (underF F t).length = n) :
    Calls Tryd.prog 18 #[pv p, .string (S t)] w fun e w' => ∃ A c, e = .returned (.slice A n c) ∧ Below w.heap.size w w' := by
  refine (chain_under h t).mono ?_
  rintro e w' ⟨v, rfl, ho, hb⟩
  obtain ⟨A, c, rfl, -⟩ := ho.sl
  exact ⟨A, c, by rw [hn], hb⟩
theorem parent_isC {x : Nm} (h : parentL x ≠ []) (hx : isC x = true) : isC (parentL x) = true := by
  rcases isC_cases hx with rfl | ⟨us, hT, rfl⟩
  · exact absurd parent_root h
  · rw [hT.parent]
    by_cases h1 : us.length = 1
    · rw [if_pos h1]; exact isC_root
    · rw [if_neg h1]; exact (hT.drop h1).isC
theorem isC_nil : isC [] = false := by decide +kernel
/-- How far the law's loop is. -/
structure TI (t0 : Nm) (k : Nat) (x : Nm) (want : List Nm) (F : FM) : Prop where
  way : ∃ done, desc t0 = done ++ upq x ∧ want.Sublist done
  six : want.length ≤ 6
  first : k = 0 → want = [] ∧ x = t0
  later : 0 < k → ∃ r, want = t0 :: r
  ok : x = [] ∨ isC x = true
  wood : Wood F want
theorem TI.start {t0 : Nm} (h : isC t0 = true) : TI t0 0 t0 [] [] :=
  ⟨⟨[], by
    have : t0 ≠ [] := by rintro rfl; rw [isC_nil] at h; cases h
    show desc t0 = upq t0
    unfold upq
    rw [if_neg this], List.Sublist.slnil⟩, by simp, fun _ => ⟨rfl, rfl⟩, fun h => absurd h (Nat.lt_irrefl _), .inr h, Wood.nil⟩
theorem upq_cons {x : Nm} (h : x ≠ []) : upq x = x :: upq (parentL x) := by
  rw [← ups_is]
  exact if_neg h
theorem TI.par {t0 x : Nm} {k : Nat} {want : List Nm} (h : TI t0 k x want F) (hx : x ≠ []) : parentL x = [] ∨ isC (parentL x) = true := by
  by_cases hp : parentL x = []
  · exact .inl hp
  · exact .inr (parent_isC hp (h.ok.resolve_left hx))
theorem TI.skip {t0 x : Nm} {k : Nat} {want : List Nm} (h : TI t0 k x want F) (hx : x ≠ []) (hk : 0 < k) : TI t0 (k + 1) (parentL x) want F := by
  obtain ⟨done, hd, hs⟩ := h.way
  refine ⟨⟨done ++ [x], ?_, hs.trans (List.sublist_append_left _ _)⟩, h.six, fun e => by omega, fun _ => h.later hk, h.par hx, h.wood⟩
  rw [hd, upq_cons hx, List.append_assoc]
  rfl
theorem TI.take {t0 x : Nm} {k : Nat} {want : List Nm} (h : TI t0 k x want F) (hx : x ≠ []) (h6 : want.length < 6) : TI t0 (k + 1) (parentL x) (want ++ [x]) (fput F x []) ∧ setF F x [] = (0, fput F x []) := by
  obtain ⟨done, hd, hs⟩ := h.way
  have hnd := desc_nodup t0
  rw [hd, upq_cons hx] at hnd
  have hxd : x ∉ want := fun hm => (List.nodup_append.1 hnd).2.2 x (hs.subset hm) x List.mem_cons_self rfl
  refine ⟨⟨⟨done ++ [x], ?_, hs.append (List.Sublist.refl _)⟩, by simp; omega, fun e => by omega, fun _ => ?_, h.par hx, h.wood.put hxd⟩, setF_yes (h.ok.resolve_left hx) (.inl rfl)⟩
  · rw [hd, upq_cons hx, List.append_assoc]
    rfl
  · rcases Nat.eq_zero_or_pos k with h0 | h0
    · obtain ⟨e1, e2⟩ := h.first h0
      exact ⟨[], by rw [e1, e2]; rfl⟩
    · obtain ⟨r, hr⟩ := h.later h0
      exact ⟨r ++ [x], by rw [hr]; rfl⟩
theorem TI.ends {t0 x : Nm} {k : Nat} {want : List Nm} (h : TI t0 k x want F) (hk : 0 < k) : Way t0 want := by
  obtain ⟨done, hd, hs⟩ := h.way
  obtain ⟨r, hr⟩ := h.later hk
  exact ⟨by rw [hd]; exact hs.trans (List.sublist_append_left _ _), h.six, by rw [hr]; exact List.mem_cons_self⟩
theorem TI.small {t0 x : Nm} {k : Nat} {want : List Nm} (h : TI t0 k x want F) : F.length ≤ 6 := by
  have := h.wood.perm.length_eq
  rw [List.length_map] at this
  have := h.six
  omega
theorem TI.xlen {t0 x : Nm} {k : Nat} {want : List Nm} (h : TI t0 k x want F) : x.length ≤ 40 := by
  rcases h.ok with rfl | hx
  · simp
  · exact isC_len hx
set_option maxRecDepth 100000 in
set_option maxHeartbeats 4000000 in
theorem chainTags_walk (a0 : ByteArray) (a1 : Int) (w : World) (hM : ML w) (hs : a0.size ≤ 140737488351232) (_ha : 0 ≤ a1 ∧ a1 < 256) :
    Calls Tryd.prog 5 #[.string a0, .int .u8 a1] w fun e w' => e = .returned (.bool true) ∧ Below w.heap.size w w' := by
  obtain ⟨l, rfl⟩ : ∃ l, a0 = S l := ⟨a0.data.toList, (S_of a0).symm⟩
  obtain ⟨i0, hi, hz0, hz1, hz2⟩ := info_parts info9
  have K0 := Lib.hid (law11_known w hM)
  have HM := Lib.hid hM
  clear hM hs
  go_enter Tryd.func5, Tryd.ntmps5
  go_wp2_with fail
  refine K0.out.mono ?_
  rintro e w1 ⟨rfl, hb1⟩
  have HB1 := Lib.hid hb1
  have KC := Lib.hid (tag_canon l w1 (HM.out.below hb1))
  clear hb1 K0
  cases hc : canonL l with
  | none =>
    rw [hc] at KC
    clear hc
    go_wp2_with fail
    refine KC.out.mono ?_
    rintro e w2 ⟨rfl, hb⟩
    have HB2 := Lib.hid (HB1.out.trans (hb.mono HB1.out.size))
    clear hb KC
    go_wp2_with fail
    go_ret
    exact ⟨rfl, HB2.out⟩
  | some t0 =>
    rw [hc] at KC
    have hC : isC t0 = true := (isC_iff _).2 (canon_again hc)
    have HT0 := Lib.hid (TI.start hC)
    have HNE : Hid (t0 ≠ []) := Lib.hid (by rintro rfl; rw [isC_nil] at hC; cases hC)
    clear hc hC
    go_wp2_with fail
    refine KC.out.mono ?_
    rintro e w2 ⟨rfl, hb⟩
    have HB2 := Lib.hid (HB1.out.trans (hb.mono HB1.out.size))
    clear hb KC
    have K1 := Lib.hid (chain_new w2 (HM.out.below HB2.out))
    go_wp2_with fail
    refine K1.out.mono ?_
    rintro e w3 ⟨p, rfl, hf⟩
    have HF0 := Lib.hid hf
    clear hf K1
    go_wp2_with fail
    go_loopw [5, 8, 9] (fun t u i wr => ∃ (k : Nat) (x : Nm) (want : List Nm) (F : FM), t = .string (S x) ∧ i = .int .i64 (k : Int) ∧ k ≤ 8 ∧ TI t0 k x want F ∧ OwnS wr w3.heap.size u want ∧ Ft w2.heap.size p w2 F wr ∧ w3.heap.size ≤ wr.heap.size) (fun _ _ i _ => 8 - (intOf i).toNat)
    case atStart => exact ⟨0, t0, [], [], rfl, rfl, by omega, HT0.out, World.ownsRow_nil _ _ _ _, HF0.out, Nat.le_refl _⟩
    case round =>
      obtain ⟨k, x, want, F, rfl, rfl, hk, hti, ho, hf, hsz⟩ := hrel
      have HO := Lib.hid ho
      have HF := Lib.hid hf
      have HTI := Lib.hid hti
      have hr := S_nil_is x
      clear ho hf hti
      by_cases hx : x = []
      · rw [decide_eq_true hx] at hr
        have hkp : 0 < k := Nat.pos_of_ne_zero (fun h => by
          obtain ⟨-, e2⟩ := HTI.out.first h
          exact HNE.out (e2.symm.trans hx))
        clear hx
        have hnil := S_nil_is []
        rw [decide_eq_true rfl] at hnil
        obtain ⟨r, hrw⟩ := HTI.out.later hkp
        have hwy := HTI.out.ends hkp
        have hwd := HTI.out.wood
        have h6 := hwy.six
        have h1 : 0 < want.length := by rw [hrw]; simp
        obtain ⟨l', z, hlz⟩ : ∃ l' z, want = l' ++ [z] := ⟨_, _, (List.dropLast_concat_getLast (by rw [hrw]; simp)).symm⟩
        have hu : (underF F z).length = l'.length := by rw [hlz] at hwy hwd; exact hwy.under hwd
        obtain ⟨m, hm⟩ : ∃ m, l'.length = m := ⟨_, rfl⟩
        have hwl : want.length = m + 1 := by rw [hlz, List.length_append, hm]; rfl
        have hlast : (want.length : Int) - 1 = (m : Int) := by omega
        have hml : m < want.length := by omega
        obtain ⟨A, c, rfl, -⟩ := HO.out.sl
        obtain ⟨g, rfl, hx0, hcell0⟩ := HO.out.at_ (i := 0) h1
        obtain ⟨g', hg', hxm, hcellm⟩ := HO.out.at_ (i := m) hml
        injection hg' with hg'
        injection hg' with hg'
        subst hg'
        have e0 : want[0] = t0 := by simp [hrw]
        have em : want[m] = z := by simp [hlz, ← hm]
        have hc0 := hcell0 _ (Below.refl _ _)
        rw [e0] at hc0
        replace hx0 : ∀ W, (Instr.indexAt 33 (.slice (some ⟨g, 0, none⟩) want.length c) (.int .i64 0)).run Tryd.prog W = .ok (.pointer (some ⟨g, 0, none⟩)) W := hx0
        have HCM : Hid (∀ w', Below wr.heap.size wr w' → w'.cell? ⟨g, m, none⟩ = some (.string (S z))) := Lib.hid (fun w' hb => by have := hcellm w' hb; rwa [em] at this)
        have htl : t0.length ≤ 1000000 := by
          have := HF.out.small
          have ht : t0 ∈ want := hwy.has
          have h2 : t0 ∈ F.map (·.1) := hwd.perm.symm.subset ht
          obtain ⟨y, hy, rfl⟩ := List.mem_map.1 h2
          have := (this y hy).1
          omega
        have KC := Lib.hid (chain_to HF.out t0 htl (hwy.first hwd))
        have HK := Lib.hid (hwy.check hwd)
        have HU := Lib.hid (hu.trans hm)
        clear hrw hwl hwy hwd hlz hu hm hcell0 hcellm e0 em hkp
        go_wp2_with fail
        refine KC.out.mono ?_
        rintro e w5 ⟨A5, c5, rfl, ho5, hb5⟩
        have HF5 := Lib.hid (HF.out.below hb5)
        have HO5 := Lib.hid (HO.out.below hb5)
        have HB5 := Lib.hid hb5
        have HO55 := Lib.hid ho5
        have KK := Lib.hid (check_to HF5.out HK.out)
        clear hb5 ho5 KC
        go_wp2_with fail
        refine KK.out.mono ?_
        rintro e w6 ⟨rfl, hb6⟩
        have HF6 := Lib.hid (HF5.out.below hb6)
        have HB6 := Lib.hid (HB5.out.trans (hb6.mono HB5.out.size))
        have KT := Lib.hid (law11_texts (HO55.out.below hb6) (HO5.out.below hb6) ⟨by omega, by omega⟩)
        rw [decide_eq_true rfl] at KT
        clear hb6 KK
        go_wp2_with fail
        refine KT.out.mono ?_
        rintro e w7 ⟨rfl, hb7⟩
        have HB7 := Lib.hid (HB6.out.trans (hb7.mono HB6.out.size))
        have KU := Lib.hid (under_len (HF6.out.below hb7) z HU.out)
        have hcm := HCM.out _ HB7.out
        clear hb7 KT
        go_wp2_with fail
        refine KU.out.mono ?_
        rintro e w8 ⟨A8, c8, rfl, hb8⟩
        have HB9 := Lib.hid ((HF.out.below (HB7.out.trans (hb8.mono HB7.out.size))).bel)
        clear hb8 KU
        go_wp2_with fail
        go_ret
        exact ⟨rfl, HB2.out.trans (HB9.out.mono HB2.out.size)⟩
      · rw [decide_eq_false hx] at hr
        have HX := Lib.hid hx
        clear hx
        by_cases hk8 : k < 8
        · have hk8' : (k : Int) < 8 := by omega
          by_cases hk0 : k = 0
          · have hk0' : ((k : Int) == 0) = true := by rw [hk0]; rfl
            by_cases h6 : want.length = 6
            · have h6' : (want.length : Int) = 6 := by omega
              have HB9 := Lib.hid HF.out.bel
              obtain ⟨A, c, rfl, -⟩ := HO.out.sl
              clear h6
              go_wp2_with fail
              go_ret
              exact ⟨rfl, HB2.out.trans (HB9.out.mono HB2.out.size)⟩
            · have h6' : ((want.length : Int) == 6) = false := by rw [beq_eq_false_iff_ne]; omega
              have h5 : want.length < 6 := by have := HTI.out.six; omega
              obtain ⟨ht, hset⟩ := HTI.out.take HX.out h5
              have hxl := HTI.out.xlen
              have HS := Lib.hid (set_to HF.out x [] (by have := HTI.out.small; omega) (by simp; omega) hset rfl)
              have HTK := Lib.hid ht
              obtain ⟨A, c, hA, -⟩ := HO.out.sl
              subst hA
              clear h6 ht hset
              go_wp2_with fail
              refine HS.out.mono ?_
              rintro e w5 ⟨rfl, hf, hkp⟩
              have HF5 := Lib.hid hf
              have HO5 := Lib.hid (hkp.row HO.out)
              have hs5 := hkp.size
              clear hf hkp HS HO
              go_wp2_with (at_builtin; refine wpList_append_own _ rfl _ _ 33 rfl w3.heap.size 9 i0 (.string ByteArray.empty) 1 16 Tryd.underlying33 hi hz0 hz1 hz2 rfl (by decide) _ _ _ rfl (World.ownsRow.alloc HO5.out _) ⟨_, 0, none⟩ 1 1 [.string (S x)] rfl rfl (cell_one_new _ _ _) (by simp [Value.oneCell']) (by have : maxLen = 9223372036854775807 := rfl; omega) (by omega) (by simp; omega) ?_; intro v' z1 hown' hgrow _; have HW := Lib.hid hown'; have HG := Lib.hid hgrow; clear hown' hgrow)
              have HFz := Lib.hid ((HF5.out.below ((Below.refl _ w5).alloc (Nat.le_refl _) (.cells #[.string (S x)] 9))).grown (World.ownsRow.alloc HO5.out _) (by decide) (by have := HF0.out.base; omega) HG.out)
              have HOz : Hid (OwnS z1 w3.heap.size v' (want ++ [x])) := Lib.hid (by
                show World.ownsRow _ _ _ _ _ _ _
                rw [List.length_append, List.length_singleton, List.map_append]
                exact HW.out)
              have hsz2 := HG.out.size
              simp only [World.size_alloc] at hsz2
              have KP := Lib.hid (tag_parent x (by omega) z1 HFz.out.ml)
              clear HW HG HO5
              refine KP.out.mono ?_
              rintro e w6 ⟨rfl, hb⟩
              have HF6 := Lib.hid (HFz.out.below hb)
              have HO6 := Lib.hid (HOz.out.below hb)
              have hs6 := hb.size
              clear hb KP HFz HOz
              go_wp2_with fail
              go_roundw
              case rel => exact ⟨k + 1, parentL x, want ++ [x], fput F x [], rfl, by go_num, by omega, HTK.out, HO6.out, HF6.out, by omega⟩
              case measure => simp [intOf]; omega
          · have hk0' : ((k : Int) == 0) = false := by rw [beq_eq_false_iff_ne]; omega
            obtain ⟨b, hsel⟩ : ∃ b : Bool, (bits BinOp.and IntKind.u8 (a1 / 2 ^ k) 1 == 1) = b := ⟨_, rfl⟩
            cases b with
            | true =>
              by_cases h6 : want.length = 6
              · have h6' : (want.length : Int) = 6 := by omega
                have HB9 := Lib.hid HF.out.bel
                obtain ⟨A, c, rfl, -⟩ := HO.out.sl
                clear h6
                go_wp2_with fail
                go_ret
                exact ⟨rfl, HB2.out.trans (HB9.out.mono HB2.out.size)⟩
              · have h6' : ((want.length : Int) == 6) = false := by rw [beq_eq_false_iff_ne]; omega
                have h5 : want.length < 6 := by have := HTI.out.six; omega
                obtain ⟨ht, hset⟩ := HTI.out.take HX.out h5
                have hxl := HTI.out.xlen
                have HS := Lib.hid (set_to HF.out x [] (by have := HTI.out.small; omega) (by simp; omega) hset rfl)
                have HTK := Lib.hid ht
                obtain ⟨A, c, hA, -⟩ := HO.out.sl
                subst hA
                clear h6 ht hset
                go_wp2_with fail
                refine HS.out.mono ?_
                rintro e w5 ⟨rfl, hf, hkp⟩
                have HF5 := Lib.hid hf
                have HO5 := Lib.hid (hkp.row HO.out)
                have hs5 := hkp.size
                clear hf hkp HS HO
                go_wp2_with (at_builtin; refine wpList_append_own _ rfl _ _ 33 rfl w3.heap.size 9 i0 (.string ByteArray.empty) 1 16 Tryd.underlying33 hi hz0 hz1 hz2 rfl (by decide) _ _ _ rfl (World.ownsRow.alloc HO5.out _) ⟨_, 0, none⟩ 1 1 [.string (S x)] rfl rfl (cell_one_new _ _ _) (by simp [Value.oneCell']) (by have : maxLen = 9223372036854775807 := rfl; omega) (by omega) (by simp; omega) ?_; intro v' z1 hown' hgrow _; have HW := Lib.hid hown'; have HG := Lib.hid hgrow; clear hown' hgrow)
                have HFz := Lib.hid ((HF5.out.below ((Below.refl _ w5).alloc (Nat.le_refl _) (.cells #[.string (S x)] 9))).grown (World.ownsRow.alloc HO5.out _) (by decide) (by have := HF0.out.base; omega) HG.out)
                have HOz : Hid (OwnS z1 w3.heap.size v' (want ++ [x])) := Lib.hid (by
                  show World.ownsRow _ _ _ _ _ _ _
                  rw [List.length_append, List.length_singleton, List.map_append]
                  exact HW.out)
                have hsz2 := HG.out.size
                simp only [World.size_alloc] at hsz2
                have KP := Lib.hid (tag_parent x (by omega) z1 HFz.out.ml)
                clear HW HG HO5
                refine KP.out.mono ?_
                rintro e w6 ⟨rfl, hb⟩
                have HF6 := Lib.hid (HFz.out.below hb)
                have HO6 := Lib.hid (HOz.out.below hb)
                have hs6 := hb.size
                clear hb KP HFz HOz
                go_wp2_with fail
                go_roundw
                case rel => exact ⟨k + 1, parentL x, want ++ [x], fput F x [], rfl, by go_num, by omega, HTK.out, HO6.out, HF6.out, by omega⟩
                case measure => simp [intOf]; omega
            | false =>
              have hxl := HTI.out.xlen
              have KP := Lib.hid (tag_parent x (by omega) wr HF.out.ml)
              have HTS := Lib.hid (HTI.out.skip HX.out (by omega))
              go_wp2_with fail
              refine KP.out.mono ?_
              rintro e w6 ⟨rfl, hb⟩
              have HF6 := Lib.hid (HF.out.below hb)
              have HO6 := Lib.hid (HO.out.below hb)
              have hs6 := hb.size
              clear hb KP HF HO
              go_wp2_with fail
              go_roundw
              case rel => exact ⟨k + 1, parentL x, want, F, rfl, by go_num, by omega, HTS.out, HO6.out, HF6.out, by omega⟩
              case measure => simp [intOf]; omega
        · have hkp : 0 < k := by omega
          have hk8' : ¬ (k : Int) < 8 := by omega
          have hnil := S_nil_is []
          rw [decide_eq_true rfl] at hnil
          obtain ⟨r, hrw⟩ := HTI.out.later hkp
          have hwy := HTI.out.ends hkp
          have hwd := HTI.out.wood
          have h6 := hwy.six
          have h1 : 0 < want.length := by rw [hrw]; simp
          obtain ⟨l', z, hlz⟩ : ∃ l' z, want = l' ++ [z] := ⟨_, _, (List.dropLast_concat_getLast (by rw [hrw]; simp)).symm⟩
          have hu : (underF F z).length = l'.length := by rw [hlz] at hwy hwd; exact hwy.under hwd
          obtain ⟨m, hm⟩ : ∃ m, l'.length = m := ⟨_, rfl⟩
          have hwl : want.length = m + 1 := by rw [hlz, List.length_append, hm]; rfl
          have hlast : (want.length : Int) - 1 = (m : Int) := by omega
          have hml : m < want.length := by omega
          obtain ⟨A, c, rfl, -⟩ := HO.out.sl
          obtain ⟨g, rfl, hx0, hcell0⟩ := HO.out.at_ (i := 0) h1
          obtain ⟨g', hg', hxm, hcellm⟩ := HO.out.at_ (i := m) hml
          injection hg' with hg'
          injection hg' with hg'
          subst hg'
          have e0 : want[0] = t0 := by simp [hrw]
          have em : want[m] = z := by simp [hlz, ← hm]
          have hc0 := hcell0 _ (Below.refl _ _)
          rw [e0] at hc0
          replace hx0 : ∀ W, (Instr.indexAt 33 (.slice (some ⟨g, 0, none⟩) want.length c) (.int .i64 0)).run Tryd.prog W = .ok (.pointer (some ⟨g, 0, none⟩)) W := hx0
          have HCM : Hid (∀ w', Below wr.heap.size wr w' → w'.cell? ⟨g, m, none⟩ = some (.string (S z))) := Lib.hid (fun w' hb => by have := hcellm w' hb; rwa [em] at this)
          have htl : t0.length ≤ 1000000 := by
            have := HF.out.small
            have ht : t0 ∈ want := hwy.has
            have h2 : t0 ∈ F.map (·.1) := hwd.perm.symm.subset ht
            obtain ⟨y, hy, rfl⟩ := List.mem_map.1 h2
            have := (this y hy).1
            omega
          have KC := Lib.hid (chain_to HF.out t0 htl (hwy.first hwd))
          have HK := Lib.hid (hwy.check hwd)
          have HU := Lib.hid (hu.trans hm)
          clear hrw hwl hwy hwd hlz hu hm hcell0 hcellm e0 em hkp
          go_wp2_with fail
          refine KC.out.mono ?_
          rintro e w5 ⟨A5, c5, rfl, ho5, hb5⟩
          have HF5 := Lib.hid (HF.out.below hb5)
          have HO5 := Lib.hid (HO.out.below hb5)
          have HB5 := Lib.hid hb5
          have HO55 := Lib.hid ho5
          have KK := Lib.hid (check_to HF5.out HK.out)
          clear hb5 ho5 KC
          go_wp2_with fail
          refine KK.out.mono ?_
          rintro e w6 ⟨rfl, hb6⟩
          have HF6 := Lib.hid (HF5.out.below hb6)
          have HB6 := Lib.hid (HB5.out.trans (hb6.mono HB5.out.size))
          have KT := Lib.hid (law11_texts (HO55.out.below hb6) (HO5.out.below hb6) ⟨by omega, by omega⟩)
          rw [decide_eq_true rfl] at KT
          clear hb6 KK
          go_wp2_with fail
          refine KT.out.mono ?_
          rintro e w7 ⟨rfl, hb7⟩
          have HB7 := Lib.hid (HB6.out.trans (hb7.mono HB6.out.size))
          have KU := Lib.hid (under_len (HF6.out.below hb7) z HU.out)
          have hcm := HCM.out _ HB7.out
          clear hb7 KT
          go_wp2_with fail
          refine KU.out.mono ?_
          rintro e w8 ⟨A8, c8, rfl, hb8⟩
          have HB9 := Lib.hid ((HF.out.below (HB7.out.trans (hb8.mono HB7.out.size))).bel)
          clear hb8 KU
          go_wp2_with fail
          go_ret
          exact ⟨rfl, HB2.out.trans (HB9.out.mono HB2.out.size)⟩
end Go.Proofs.YthgjpppbpgndcaaDoor
