import Derived.Test.YtaccjifhgohfpaaDoorTagRef3
import Derived.Test.YtaccjifhgohfpaaDoorTagClimbs
import Derived.Test.YtaccjifhgohfpaaDoorTagBuiltMath
/- The reference's Is, Parent; the walk of the law TagTells. -/
namespace Go.Proofs.YtaccjifhgohfpaaDoor
open Go.RowKit Go.Shelf Go.Proofs.YtaccjifhgohfpaaDoorW.PrintWords Go.Proofs.YtaccjifhgohfpaaDoorW.PrintMore

theorem ref_yes {l c : List UInt8} (h : canonL l = some c) (hl : l.length ≤ 1000000) (w : World) : Calls Tryd.prog 23 #[.string (S l)] w fun e w' => e = .returned (.tuple #[.string (S c), .bool true]) ∧ Below w.heap.size w w' := by
  have := ref9_canon l hl w
  rw [canonR_is, h] at this
  exact this
theorem ref_no {l : List UInt8} (h : canonL l = none) (hl : l.length ≤ 1000000) (w : World) : Calls Tryd.prog 23 #[.string (S l)] w fun e w' => e = .returned (.tuple #[.string (S []), .bool false]) ∧ Below w.heap.size w w' := by
  have := ref9_canon l hl w
  rw [canonR_is, h] at this
  exact this
theorem ref9_is (l : List UInt8) (hl : l.length ≤ 1000000) (w : World) : Calls Tryd.prog 25 #[.string (S l)] w fun e w' => e = .returned (.bool (isC l)) ∧ Below w.heap.size w w' := by
  unfold isC
  cases hc : canonL l with
  | none =>
    have HC := Lib.hid (ref_no hc hl w)
    have hd : decide ((none : Option (List UInt8)) = some l) = false := by simp
    clear hc
    go_enter Tryd.func25, Tryd.ntmps25
    go_wp2_with fail
    refine HC.out.mono ?_
    rintro e w1 ⟨rfl, hb⟩
    go_wp2
    go_ret
    exact ⟨by rw [hd]; rfl, hb⟩
  | some c =>
    have HC := Lib.hid (ref_yes hc hl w)
    have hr := S_eq c l
    by_cases h : c = l
    · have hd : decide (some c = some l) = true := by simp [h]
      rw [decide_eq_true h] at hr
      clear hc h
      go_enter Tryd.func25, Tryd.ntmps25
      go_wp2_with fail
      refine HC.out.mono ?_
      rintro e w1 ⟨rfl, hb⟩
      go_wp2
      go_ret
      exact ⟨by rw [hd]; rfl, hb⟩
    · have hd : decide (some c = some l) = false := by simp [h]
      rw [decide_eq_false h] at hr
      clear hc h
      go_enter Tryd.func25, Tryd.ntmps25
      go_wp2_with fail
      refine HC.out.mono ?_
      rintro e w1 ⟨rfl, hb⟩
      go_wp2
      go_ret
      exact ⟨by rw [hd]; rfl, hb⟩
/-- Behind place k stands no hyphen. -/
def NoHyphen (l : List UInt8) (k : Nat) : Prop := (45 : UInt8) ∉ l.drop (k + 1)
theorem canon_head {l : List UInt8} (h : isC l = true) (hr : l ≠ rootL) : ∃ b r, l = b :: r ∧ b ≠ 45 := by
  rcases isC_cases h with h | ⟨us, hT, hl⟩
  · exact absurd h hr
  · obtain ⟨n, hn⟩ := hT.loop
    cases us with
    | nil => exact absurd rfl hT.ne
    | cons p ps =>
      have hp : p ≠ [] := fun e => by
        rw [e, List.map_cons, loop_stop] at hn
        · cases hn
        · exact st_nolang (by decide) _
      cases p with
      | nil => exact absurd rfl hp
      | cons b p =>
        have hb : b ≠ 45 := ((hy_is b).1 (hT.hy (b :: p) (by simp) b (by simp))).1
        cases ps with
        | nil => exact ⟨b, p, by rw [hl]; rfl, hb⟩
        | cons q qs => exact ⟨b, p ++ 45 :: joinL (q :: qs), by rw [hl]; simp [joinL], hb⟩

set_option maxHeartbeats 1000000 in
theorem ref9_parent (l : List UInt8) (hl : l.length ≤ 1000000) (w : World) : Calls Tryd.prog 27 #[.string (S l)] w fun e w' => e = .returned (.string (S (parentL l))) ∧ Below w.heap.size w w' := by
  have HC := Lib.hid (ref9_is l hl w)
  have hz := S_size l
  have hr := S_eq l rootL
  rw [show (S rootL).toList = [114, 111, 111, 116] from by first | rfl | decide +kernel] at hr
  cases hc : isC l with
  | false =>
    have hp : parentL l = [] := by unfold parentL; rw [hc, if_neg (by simp)]
    rw [hc] at HC
    rw [hp]
    clear hc hr hp
    go_enter Tryd.func27, Tryd.ntmps27
    go_wp2_with fail
    refine HC.out.mono ?_
    rintro e w1 ⟨rfl, hb⟩
    go_wp2
    go_ret
    exact ⟨rfl, hb⟩
  | true =>
    rw [hc] at HC
    by_cases h : l = rootL
    · have hp : parentL l = [] := by unfold parentL; rw [if_neg (by simp [h])]
      rw [decide_eq_true h] at hr
      rw [hp]
      clear hc h hp
      go_enter Tryd.func27, Tryd.ntmps27
      go_wp2_with fail
      refine HC.out.mono ?_
      rintro e w1 ⟨rfl, hb⟩
      go_wp2
      go_ret
      exact ⟨rfl, hb⟩
    · rw [decide_eq_false h] at hr
      obtain ⟨b, r, hbr, hb45⟩ := canon_head hc h
      have hlen : 1 ≤ l.length := by rw [hbr]; simp
      have hpar : ∀ k, k < l.length → l[k]? = some 45 → NoHyphen l k → parentL l = l.take k := fun k hk h45 hn => by
        have hs : l = l.take k ++ 45 :: l.drop (k + 1) := by
          rw [List.getElem?_eq_getElem hk] at h45
          conv => lhs; rw [← List.take_append_drop k l, List.drop_eq_getElem_cons hk, Option.some.inj h45]
        unfold parentL
        rw [if_pos ⟨hc, h⟩]
        have hsp : splitL l = splitL (l.take k) ++ [l.drop (k + 1)] := by
          conv => lhs; rw [hs]
          rw [splitL_app, splitL_none hn]
        have hn1 : (splitL l).length ≠ 1 := by
          have := List.length_pos_iff.2 (splitL_ne (l.take k))
          rw [hsp, List.length_append, List.length_singleton]
          omega
        rw [if_neg hn1, hsp, List.dropLast_concat, joinL_split]
      have hpn : NoHyphen l 0 → parentL l = rootL := fun hn => by
        have : (45 : UInt8) ∉ l := by
          rw [hbr] at hn ⊢
          intro hm
          rcases List.mem_cons.1 hm with e | hm
          · exact hb45 e.symm
          · exact hn hm
        unfold parentL
        rw [if_pos ⟨hc, h⟩, splitL_none this, if_pos (by simp)]
      have HP := Lib.hid hpar
      have HN := Lib.hid hpn
      clear hc h hbr hb45 hpar hpn
      go_enter Tryd.func27, Tryd.ntmps27
      go_wp2_with fail
      refine HC.out.mono ?_
      rintro e w1 ⟨rfl, hb⟩
      have HB := Lib.hid hb
      clear hb
      go_wp2_with fail
      go_loop [3] (fun i => ∃ k : Nat, k < l.length ∧ i = .int .i64 (k : Int) ∧ Hid (NoHyphen l k)) (fun i => (intOf i).toNat)
      case atStart =>
        refine ⟨l.length - 1, by omega, by congr 1; omega, Lib.hid ?_⟩
        unfold NoHyphen
        rw [List.drop_eq_nil_of_le (by omega)]
        simp
      case round =>
        obtain ⟨k, hk, rfl, HH⟩ := hrel
        by_cases h0 : 0 < k
        · have h0' : (0 : Int) < (k : Int) := by omega
          have hx := idxS l k hk
          obtain ⟨x, hxx⟩ : ∃ x : Int, ((l[k]).toNat : Int) = x := ⟨_, rfl⟩
          by_cases h45 : l[k] = 45
          · have hpk := Lib.hid (HP.out k hk (by rw [List.getElem?_eq_getElem hk, h45]) HH.out)
            have hcut := run_take l k (by omega)
            rw [h45, show ((45 : UInt8).toNat : Int) = 45 from rfl] at hx
            clear hxx h45 h0
            go_wp2_with fail
            go_ret
            exact ⟨by rw [hpk.out]; rfl, HB.out⟩
          · have e1 : (x == 45) = false := by
              rw [beq_eq_false_iff_ne]
              exact fun e => h45 (UInt8.toNat_inj.1 (by show (l[k]).toNat = 45; omega))
            have HH2 : Hid (NoHyphen l (k - 1)) := Lib.hid (by
              unfold NoHyphen
              rw [show k - 1 + 1 = k from by omega, List.drop_eq_getElem_cons hk]
              intro hm
              rcases List.mem_cons.1 hm with e | hm
              · exact h45 e.symm
              · exact HH.out hm)
            rw [hxx] at hx
            clear hxx h45
            go_wp2_with fail
            go_round
            case rel => exact ⟨k - 1, by omega, by congr 1; omega, HH2⟩
            case measure => simp [intOf]; omega
        · obtain rfl : k = 0 := by omega
          have hp0 := Lib.hid (HN.out HH.out)
          clear h0
          go_wp2_with fail
          go_ret
          exact ⟨by rw [hp0.out]; rfl, HB.out⟩

theorem isC_no' {l : List UInt8} (h : canonL l = none) : isC l = false := by unfold isC; rw [h]; simp
theorem splitR_canon {l c : List UInt8} (h : canonL l = some c) : splitR c = partsL c := by
  rcases canon_cases h with rfl | ⟨us, hT, rfl, _⟩
  · decide +kernel
  · rw [hT.parts, splitR_join us hT.ne hT.hy]
theorem canonc_len {l c : List UInt8} (h : canonL l = some c) : c.length ≤ 40 := canon_len (canon_again h)
theorem beq_self_str (s : ByteArray) : (s.toList == s.toList) = true := by simp

set_option maxRecDepth 100000 in
set_option maxHeartbeats 4000000 in
theorem tagTells_walk (a0 : ByteArray) (w : World) (hM : ML w) (hs : a0.size ≤ 140737488351232) :
    Calls Tryd.prog 8 #[.string a0] w fun e w' => e = .returned (.bool true) ∧ Below w.heap.size w w' := by
  obtain ⟨l, rfl⟩ : ∃ l, a0 = S l := ⟨a0.data.toList, (S_of a0).symm⟩
  have hz := S_size l
  rw [S_size] at hs
  have HM := Lib.hid hM
  have KN := Lib.hid (law9_known w hM)
  by_cases h100 : 100 < l.length
  · have h100' : (100 : Int) < (l.length : Int) := by omega
    clear hM h100
    go_enter Tryd.func8, Tryd.ntmps8
    go_wp2_with fail
    refine KN.out.mono ?_
    rintro e w1 ⟨rfl, hb⟩
    go_wp2
    go_ret
    exact ⟨rfl, hb⟩
  have h100' : ¬ (100 : Int) < (l.length : Int) := by omega
  have hl : l.length ≤ 1000000 := by omega
  have KI := Lib.hid (fun W h => tag_is l W h)
  have RI := Lib.hid (fun W => ref9_is l hl W)
  have KP := Lib.hid (fun W h => tag_parent l hs W h)
  have RP := Lib.hid (fun W => ref9_parent l hl W)
  obtain ⟨bi, hbi⟩ : ∃ b, isC l = b := ⟨_, rfl⟩
  obtain ⟨pp, hpp⟩ : ∃ p, S (parentL l) = p := ⟨_, rfl⟩
  rw [hbi] at KI RI
  rw [hpp] at KP RP
  have hbb : (bi != bi) = false := by simp
  cases hc : canonL l with
  | none =>
    have K1 := Lib.hid (fun W h => canon_no hc W h)
    have R1 := Lib.hid (fun W => ref_no hc hl W)
    have K2 := Lib.hid (fun W h => parts_len (l := []) (n := 0) (by decide +kernel) W h)
    have K3 := Lib.hid (fun W h => parts_len (l := l) (n := 0) (by unfold partsL; rw [isC_no' hc]; rfl) W h)
    have q4 := S_nil
    clear hM h100 hs hl hbi hpp hc
    go_enter Tryd.func8, Tryd.ntmps8
    go_wp2_with fail
    refine KN.out.mono ?_
    rintro e w1 ⟨rfl, hb⟩
    have HB1 := Lib.hid hb
    clear hb
    go_wp2_with fail
    refine (K1.out w1 (HM.out.below HB1.out)).mono ?_
    rintro e w2 ⟨rfl, hb⟩
    have HB2 := Lib.hid (HB1.out.trans (hb.mono HB1.out.size))
    clear hb
    go_wp2_with fail
    refine (R1.out w2).mono ?_
    rintro e w3 ⟨rfl, hb⟩
    have HB3 := Lib.hid (HB2.out.trans (hb.mono HB2.out.size))
    clear hb
    go_wp2_with fail
    refine (KI.out w3 (HM.out.below HB3.out)).mono ?_
    rintro e w4 ⟨rfl, hb⟩
    have HB4 := Lib.hid (HB3.out.trans (hb.mono HB3.out.size))
    clear hb
    go_wp2_with fail
    refine (RI.out w4).mono ?_
    rintro e w5 ⟨rfl, hb⟩
    have HB5 := Lib.hid (HB4.out.trans (hb.mono HB4.out.size))
    clear hb
    go_wp2_with fail
    refine (KP.out w5 (HM.out.below HB5.out)).mono ?_
    rintro e w6 ⟨rfl, hb⟩
    have HB6 := Lib.hid (HB5.out.trans (hb.mono HB5.out.size))
    clear hb
    go_wp2_with fail
    refine (RP.out w6).mono ?_
    rintro e w7 ⟨rfl, hb⟩
    have HB7 := Lib.hid (HB6.out.trans (hb.mono HB6.out.size))
    clear hb
    go_wp2_with fail
    refine (K2.out w7 (HM.out.below HB7.out)).mono ?_
    rintro e w8 ⟨A8, cap8, rfl, hb⟩
    have HB8 := Lib.hid (HB7.out.trans (hb.mono HB7.out.size))
    clear hb
    go_wp2_with fail
    refine (K3.out w8 (HM.out.below HB8.out)).mono ?_
    rintro e w9 ⟨A9, cap9, rfl, hb⟩
    have HB9 := Lib.hid (HB8.out.trans (hb.mono HB8.out.size))
    clear hb
    go_wp2
    go_ret
    exact ⟨rfl, HB9.out⟩
  | some c =>
    have K1 := Lib.hid (fun W h => canon_yes hc W h)
    have R1 := Lib.hid (fun W => ref_yes hc hl W)
    have hcl := canonc_len hc
    have K2 := Lib.hid (fun W h => tag_parts c W h)
    have R2 := Lib.hid (fun W => ref9_split c (by omega) W)
    have hsp := splitR_canon hc
    rw [hsp] at R2
    obtain ⟨us, hus⟩ : ∃ us, partsL c = us := ⟨_, rfl⟩
    rw [hus] at K2 R2
    have hun : us.length ≤ 41 := by
      rw [← hus, ← hsp]
      have := splitR_count c
      omega
    clear hM h100 hs hl hbi hpp hc hcl hsp hus
    go_enter Tryd.func8, Tryd.ntmps8
    go_wp2_with fail
    refine KN.out.mono ?_
    rintro e w1 ⟨rfl, hb⟩
    have HB1 := Lib.hid hb
    clear hb
    go_wp2_with fail
    refine (K1.out w1 (HM.out.below HB1.out)).mono ?_
    rintro e w2 ⟨rfl, hb⟩
    have HB2 := Lib.hid (HB1.out.trans (hb.mono HB1.out.size))
    clear hb
    go_wp2_with fail
    refine (R1.out w2).mono ?_
    rintro e w3 ⟨rfl, hb⟩
    have HB3 := Lib.hid (HB2.out.trans (hb.mono HB2.out.size))
    clear hb
    go_wp2_with fail
    refine (KI.out w3 (HM.out.below HB3.out)).mono ?_
    rintro e w4 ⟨rfl, hb⟩
    have HB4 := Lib.hid (HB3.out.trans (hb.mono HB3.out.size))
    clear hb
    go_wp2_with fail
    refine (RI.out w4).mono ?_
    rintro e w5 ⟨rfl, hb⟩
    have HB5 := Lib.hid (HB4.out.trans (hb.mono HB4.out.size))
    clear hb
    go_wp2_with fail
    refine (KP.out w5 (HM.out.below HB5.out)).mono ?_
    rintro e w6 ⟨rfl, hb⟩
    have HB6 := Lib.hid (HB5.out.trans (hb.mono HB5.out.size))
    clear hb
    go_wp2_with fail
    refine (RP.out w6).mono ?_
    rintro e w7 ⟨rfl, hb⟩
    have HB7 := Lib.hid (HB6.out.trans (hb.mono HB6.out.size))
    clear hb
    go_wp2_with fail
    refine (K2.out w7 (HM.out.below HB7.out)).mono ?_
    rintro e w8 ⟨v8, rfl, hr8, hb⟩
    have HB8 := Lib.hid (HB7.out.trans (hb.mono HB7.out.size))
    have HR8 := Lib.hid hr8
    clear hb hr8
    go_wp2_with fail
    refine (R2.out w8).mono ?_
    rintro e w9 ⟨v9, rfl, ho9, hb⟩
    have HB9 := Lib.hid (HB8.out.trans (hb.mono HB8.out.size))
    obtain ⟨A8, cap8, rfl, hc8, hr8⟩ := HR8.out.below hb
    obtain ⟨A9, cap9, rfl, hc9, hr9⟩ := OwnS.rd ho9
    have HQ8 := Lib.hid hr8
    have HQ9 := Lib.hid hr9
    obtain ⟨n, hn⟩ : ∃ n, us.length = n := ⟨_, rfl⟩
    have Hn := Lib.hid hn
    rw [hn] at hun ⊢
    have hnn : ((n : Int) != (n : Int)) = false := by simp
    clear hb hr8 hr9 ho9 hc8 hc9 hn
    go_wp2_with fail
    go_loopw [9] (fun i wr => ∃ k : Nat, k ≤ n ∧ i = .int .i64 (k : Int) ∧ Below w9.heap.size w9 wr) (fun i _ => n - (intOf i).toNat)
    case atStart => exact ⟨0, Nat.zero_le _, rfl, Below.refl _ _⟩
    case round =>
      obtain ⟨k, hk, rfl, hB⟩ := hrel
      have HBr := Lib.hid hB
      clear hB
      by_cases hlt : k < n
      · have hltI : (k : Int) < (n : Int) := by omega
        obtain ⟨g8, rfl, hg8, hcell8⟩ := HQ8.out (by rw [Hn.out]; omega)
        obtain ⟨g9, rfl, hg9, hcell9⟩ := HQ9.out (by rw [Hn.out]; omega)
        obtain ⟨x, hx⟩ : ∃ x, us[k]? = some x := ⟨_, List.getElem?_eq_getElem (by rw [Hn.out]; exact hlt)⟩
        have c8 := pw_cell_below HBr.out (hcell8 k x hx)
        have c9 := pw_cell_below HBr.out (hcell9 k x hx)
        have i8 := idx9 g8 n cap8 k hlt
        have i9 := idx9 g9 n cap9 k hlt
        clear hcell8 hcell9 hx
        go_wp2_with fail
        go_quiet (fail)
        all_goals go_wp2
        go_roundw
        case rel => exact ⟨k + 1, by omega, by go_num, pw_below_drewN HBr.out _⟩
        case measure => simp [intOf]; omega
      · have hge : ¬ (k : Int) < (n : Int) := by omega
        go_wp2
        go_ret
        exact ⟨rfl, HB9.out.trans (HBr.out.mono HB9.out.size)⟩
end Go.Proofs.YtaccjifhgohfpaaDoor
