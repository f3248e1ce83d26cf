import Derived.Test.YtaccjifhgohfpaaDoorTagClimbs
/- The walk of the law TagRoots. -/
namespace Go.Proofs.YtaccjifhgohfpaaDoor
open Go.RowKit Go.Shelf Go.Proofs.YtaccjifhgohfpaaDoorW.PrintWords Go.Proofs.YtaccjifhgohfpaaDoorW.PrintMore

/-- Some letters of 'root' are capitals; from k on none. -/
def RootI (k : Nat) (xs : List UInt8) : Prop := smallL xs = rootL ∧ xs.drop k = rootL.drop k
theorem RootI.len {k : Nat} {xs : List UInt8} (h : RootI k xs) : xs.length = 4 := by
  have := congrArg List.length h.1
  rw [small_len] at this
  exact this
theorem RootI.get {k : Nat} {xs : List UInt8} (h : RootI k xs) (hk : k < 4) : (nl xs).getD k 0 = (nl rootL).getD k 0 := by
  have hl := h.len
  rw [nl_get (by omega), nl_get (by show k < 4; exact hk)]
  have := congrArg (fun l => l[0]?) h.2
  simp only [List.getElem?_drop, Nat.add_zero] at this
  rw [List.getElem?_eq_getElem (by omega), List.getElem?_eq_getElem (by show k < 4; exact hk)] at this
  rw [Option.some.inj this]
theorem RootI.keep {k : Nat} {xs : List UInt8} (h : RootI k xs) : RootI (k + 1) xs :=
  ⟨h.1, by
    have := congrArg (List.drop 1) h.2
    rwa [List.drop_drop, List.drop_drop] at this⟩
theorem RootI.set {k : Nat} {xs : List UInt8} (h : RootI k xs) (hk : k < 4) : RootI (k + 1) (xs.set k (rootL.getD k 0 - 32)) := by
  refine ⟨?_, ?_⟩
  · unfold smallL
    rw [List.map_set]
    have h1 : xs.map lowU = rootL := h.1
    rw [h1]
    match k, hk with
    | 0, _ => decide
    | 1, _ => decide
    | 2, _ => decide
    | 3, _ => decide
  · rw [List.drop_set_of_lt (by omega)]
    exact h.keep.2
theorem rootI_none {xs : List UInt8} (h : smallL xs = rootL) : canonL xs = some rootL ∧ canonL (xs ++ [45, 85, 83]) = none := by
  constructor
  · unfold canonL
    have : xs.length = 4 := by have := congrArg List.length h; rw [small_len] at this; exact this
    rw [if_neg (by omega), if_pos h]
  · rw [canon_norm]
    have : normL (xs ++ [45, 85, 83]) = rootL ++ [45, 117, 115] := by
      unfold normL smallL
      have h1 : xs.map lowU = rootL := h
      rw [List.map_append, h1]
      decide
    rw [this]
    decide +kernel
theorem root_get (k : Nat) (hk : k < 4) : (nl rootL).getD k 0 - 32 = ((rootL.getD k 0 - 32).toNat : Int) ∧ 97 ≤ (nl rootL).getD k 0 ∧ (nl rootL).getD k 0 ≤ 122 := by
  match k, hk with
  | 0, _ => decide
  | 1, _ => decide
  | 2, _ => decide
  | 3, _ => decide

theorem Row8.below {W W' : World} {g : Nat} {xs : List Int} (h : Row8 W g xs) (hb : Below W.heap.size W W') : Row8 W' g xs := by
  obtain ⟨cs, t, fz, h1, h2, h3, h4⟩ := h
  exact ⟨cs, t, fz, (hb.block g (Array.getElem?_eq_some_iff.1 h1).1).trans h1, h2, h3, h4⟩

set_option maxRecDepth 100000 in
set_option maxHeartbeats 4000000 in
theorem tagRoots_walk (a0 : Int) (a1 : ByteArray) (w : World) (hM : ML w) (h0 : 0 ≤ a0 ∧ a0 < 256) (hs : a1.size ≤ 140737488351232) :
    Calls Tryd.prog 12 #[.int .u8 a0, .string a1] w fun e w' => e = .returned (.bool true) ∧ Below w.heap.size w w' := by
  obtain ⟨l, rfl⟩ : ∃ l, a1 = S l := ⟨a1.data.toList, (S_of a1).symm⟩
  rw [S_size] at hs
  obtain ⟨h0, h0'⟩ := h0
  have HM := Lib.hid hM
  have KN := Lib.hid (law9_known w hM)
  have HS := Lib.hid hs
  clear hM hs
  have kc := conv_const
  go_enter Tryd.func12, Tryd.ntmps12
  go_wp2_with fail
  refine KN.out.mono ?_
  rintro e w1 ⟨rfl, hb⟩
  have HB1 := Lib.hid hb
  clear hb
  go_wp2_with fail
  have hrow : Row8 (w1.alloc (.cells #[.int .u8 114, .int .u8 111, .int .u8 111, .int .u8 116] 5 (4, 5))) w1.heap.size (nl rootL) := by
    refine ⟨_, _, _, World.alloc_heap_new w1 _, by decide, by decide, fun j hj => ?_⟩
    have hj4 : j < 4 := hj
    match j, hj4 with
    | 0, _ => rfl
    | 1, _ => rfl
    | 2, _ => rfl
    | 3, _ => rfl
  have HR0 := Lib.hid hrow
  have HB2 := Lib.hid (HB1.out.alloc HB1.out.size (.cells #[.int .u8 114, .int .u8 111, .int .u8 111, .int .u8 116] 5 (4, 5)))
  have hsz1 := HB1.out.size
  generalize w1.alloc (.cells #[.int .u8 114, .int .u8 111, .int .u8 111, .int .u8 116] 5 (4, 5)) = W2 at HR0 HB2 ⊢
  clear kc hrow
  go_loopw [6] (fun i wr => ∃ (k : Nat) (xs : List UInt8), k ≤ 4 ∧ i = .int .i64 (k : Int) ∧ RootI k xs ∧ Hid (Row8 wr w1.heap.size (nl xs)) ∧ Below w.heap.size w wr) (fun i _ => 4 - (intOf i).toNat)
  case atStart => exact ⟨0, rootL, by omega, rfl, ⟨by decide, rfl⟩, HR0, HB2.out⟩
  case round =>
    obtain ⟨k, xs, hk, rfl, hI, HR, hB⟩ := hrel
    have HB := Lib.hid hB
    clear hB
    by_cases hlt : k < 4
    · obtain ⟨hc, hf⟩ := HR.out.cell (j := k) (by rw [nl_length, hI.len]; exact hlt)
      rw [hI.get hlt] at hc
      obtain ⟨g1, g2, g3⟩ := root_get k hlt
      obtain ⟨x, hx⟩ : ∃ x, (nl rootL).getD k 0 = x := ⟨_, rfl⟩
      rw [hx] at hc g1 g2 g3
      have hi := idx8 w1.heap.size 4 4 k hlt
      have HW := Lib.hid (HR.out.set_ k (x - 32) (by rw [nl_length, hI.len]; exact hlt))
      rw [g1, ← nl_set, ← g1] at HW
      have HK := Lib.hid hI.keep
      have HT := Lib.hid (hI.set hlt)
      clear g1 hx hI
      go_wp2_with fail
      · refine ⟨⟨k + 1, _, by omega, by go_num, HT.out, HW, Below.set_ HB.out hsz1 _ _⟩, by simp [intOf]; omega⟩
      · refine ⟨⟨k + 1, xs, by omega, by go_num, HK.out, HR, HB.out⟩, by simp [intOf]; omega⟩
    · obtain rfl : k = 4 := by omega
      obtain ⟨e1, e2⟩ := rootI_none hI.1
      have hl4 := hI.len
      have hc2 := conv_bytes_string (P := Tryd.prog) 22 5 9 Tryd.underlying22 Tryd.underlying5 Tryd.underlying9 (HR.out.reads (by rw [nl_length]; omega)) 4
      rw [nl_length, hl4, show strOfNums (nl xs) = S xs from strOf_nums _] at hc2
      have K1 := Lib.hid (fun W h => canon_yes e1 W h)
      have K2 := Lib.hid (fun W h => canon_no e2 W h)
      have K3 := Lib.hid (fun W h => parent_to (l := rootL) (c := []) parent_root (by decide) W h)
      have K4 := Lib.hid (fun W h => is_yes isC_root W h)
      have q3 : ((S rootL).toList == [114, 111, 111, 116]) = true := by decide +kernel
      have q4 := S_nil
      have hrow2 : ∀ W', Below wr.heap.size wr W' → Row8 W' w1.heap.size (nl xs) := fun W' h => Row8.below HR.out h
      have HR2 := Lib.hid hrow2
      obtain ⟨s1, hs1⟩ : ∃ s1, S xs = s1 := ⟨_, rfl⟩
      have hcat : s1 ++ ByteArray.mk #[45, 85, 83] = S (xs ++ [45, 85, 83]) := by rw [← hs1]; rfl
      have hno : s1.size = 4 := by rw [← hs1, S_size]; exact hl4
      have Hs1 := Lib.hid hs1
      have Hl4 := Lib.hid hl4
      rw [hs1] at hc2
      rw [hs1] at K1
      clear e1 e2 hl4 hI hs1 hrow2 HR0 HB2
      go_wp2_with fail
      refine (K1.out wr (HM.out.below HB.out)).mono ?_
      rintro e v1 ⟨rfl, hb⟩
      have HV1 := Lib.hid (HB.out.trans (hb.mono HB.out.size))
      have hc3 := conv_bytes_string (P := Tryd.prog) 22 5 9 Tryd.underlying22 Tryd.underlying5 Tryd.underlying9 ((HR2.out v1 hb).reads (by rw [nl_length, Hl4.out]; omega)) 4
      rw [nl_length, Hl4.out, show strOfNums (nl xs) = S xs from strOf_nums _, Hs1.out] at hc3
      clear hb hc2
      go_wp2_with fail
      refine (K2.out v1 (HM.out.below HV1.out)).mono ?_
      rintro e v2 ⟨rfl, hb⟩
      have HV2 := Lib.hid (HV1.out.trans (hb.mono HV1.out.size))
      clear hb hc3 hcat hno
      cases hc : canonL l with
      | none =>
        have K5 := Lib.hid (fun W h => canon_no hc W h)
        clear hc
        go_wp2_with fail
        refine (K5.out v2 (HM.out.below HV2.out)).mono ?_
        rintro e v3 ⟨rfl, hb⟩
        have HV3 := Lib.hid (HV2.out.trans (hb.mono HV2.out.size))
        clear hb
        go_wp2_with fail
        refine (K3.out v3 (HM.out.below HV3.out)).mono ?_
        rintro e v4 ⟨rfl, hb⟩
        have HV4 := Lib.hid (HV3.out.trans (hb.mono HV3.out.size))
        clear hb
        go_wp2_with fail
        refine (K4.out v4 (HM.out.below HV4.out)).mono ?_
        rintro e v5 ⟨rfl, hb⟩
        have HV5 := Lib.hid (HV4.out.trans (hb.mono HV4.out.size))
        clear hb
        go_wp2
        go_ret
        exact ⟨rfl, HV5.out⟩
      | some c =>
        have K5 := Lib.hid (fun W h => canon_yes hc W h)
        have hr := S_eq c rootL
        rw [show (S rootL).toList = [114, 111, 111, 116] from by first | rfl | decide +kernel] at hr
        rcases canon_cases hc with hcr | ⟨us, hT, hcu, -⟩
        · rw [decide_eq_true hcr] at hr
          clear hc hcr
          go_wp2_with fail
          refine (K5.out v2 (HM.out.below HV2.out)).mono ?_
          rintro e v3 ⟨rfl, hb⟩
          have HV3 := Lib.hid (HV2.out.trans (hb.mono HV2.out.size))
          clear hb
          go_wp2_with fail
          refine (K3.out v3 (HM.out.below HV3.out)).mono ?_
          rintro e v4 ⟨rfl, hb⟩
          have HV4 := Lib.hid (HV3.out.trans (hb.mono HV3.out.size))
          clear hb
          go_wp2_with fail
          refine (K4.out v4 (HM.out.below HV4.out)).mono ?_
          rintro e v5 ⟨rfl, hb⟩
          have HV5 := Lib.hid (HV4.out.trans (hb.mono HV4.out.size))
          clear hb
          go_wp2
          go_ret
          exact ⟨rfl, HV5.out⟩
        · rw [decide_eq_false (by rw [hcu]; exact hT.not_root)] at hr
          obtain ⟨p, hp⟩ : ∃ p, parentL c = p := ⟨_, rfl⟩
          obtain ⟨m, hm⟩ : ∃ m, (partsL c).length = m := ⟨_, rfl⟩
          have hlc : c.length ≤ 140737488351232 := by have := hT.len; rw [hcu]; omega
          have K6 := Lib.hid (fun W h => parent_to (l := c) hp hlc W h)
          have K7 := Lib.hid (fun W h => parts_len (l := c) hm W h)
          have hsame : decide (p = rootL) = ((m : Int) == 1) := by
            rw [← hp, ← hm, hcu, hT.parent, hT.parts]
            by_cases h1 : us.length = 1
            · rw [if_pos h1, h1]; simp
            · rw [if_neg h1, decide_eq_false (hT.drop h1).not_root]
              symm
              rw [beq_eq_false_iff_ne]
              omega
          have hr2 := S_eq p rootL
          rw [show (S rootL).toList = [114, 111, 111, 116] from by first | rfl | decide +kernel, hsame] at hr2
          clear hc hcu hT hp hm hlc hsame
          go_wp2_with fail
          refine (K5.out v2 (HM.out.below HV2.out)).mono ?_
          rintro e v3 ⟨rfl, hb⟩
          have HV3 := Lib.hid (HV2.out.trans (hb.mono HV2.out.size))
          clear hb
          go_wp2_with fail
          refine (K3.out v3 (HM.out.below HV3.out)).mono ?_
          rintro e v4 ⟨rfl, hb⟩
          have HV4 := Lib.hid (HV3.out.trans (hb.mono HV3.out.size))
          clear hb
          go_wp2_with fail
          refine (K4.out v4 (HM.out.below HV4.out)).mono ?_
          rintro e v5 ⟨rfl, hb⟩
          have HV5 := Lib.hid (HV4.out.trans (hb.mono HV4.out.size))
          clear hb
          go_wp2_with fail
          refine (K6.out v5 (HM.out.below HV5.out)).mono ?_
          rintro e v6 ⟨rfl, hb⟩
          have HV6 := Lib.hid (HV5.out.trans (hb.mono HV5.out.size))
          clear hb
          go_wp2_with fail
          refine (K7.out v6 (HM.out.below HV6.out)).mono ?_
          rintro e v7 ⟨A, cap, rfl, hb⟩
          have HV7 := Lib.hid (HV6.out.trans (hb.mono HV6.out.size))
          clear hb
          go_wp2
          go_ret
          exact ⟨rfl, HV7.out⟩
end Go.Proofs.YtaccjifhgohfpaaDoor
