import Derived.Test.YthgjpppbpgndcaaGreatDoorChainNext2
/- chain.Chain. -/
namespace Go.Proofs.YthgjpppbpgndcaaGreatDoor
open Go.RowKit Go.Maps Go.Shelf Go.Proofs.YthgjpppbpgndcaaGreatDoorW.PrintWords Go.Proofs.YthgjpppbpgndcaaGreatDoorW.PrintMore
variable {B p : Nat} {w0 w w' : World} {F : FM}

theorem owns_slice {w : World} {base : Nat} {e : TypeId} {size : Nat} {v : Value} {n : Nat} {xs : List Value} (h : w.ownsRow base e size v n xs) : ∃ A c, v = .slice A n c ∧ n ≤ c := by
  rcases h.2 with ⟨rfl, rfl⟩ | ⟨g, cap, cur, rfl, _, _, h1, _⟩
  · exact ⟨_, _, rfl, Nat.le_refl _⟩
  · exact ⟨_, _, rfl, h1⟩
theorem OwnS.below {base : Nat} {v : Value} {ss : List Nm} (h : OwnS w base v ss) (hb : Below w.heap.size w w') : OwnS w' base v ss :=
  row_same h (fun k hk _ => hb.block k hk)
theorem lib_has (base : Nat) (v : Value) (out : List (List UInt8)) (t : List UInt8) (hlen : out.length ≤ 1000000) (w : World) (ho : OwnS w base v out) :
    Calls Tryz.prog 23 #[v, .string (S t)] w fun e w2 => e = .returned (.bool (decide (t ∈ out))) ∧ w2 = w := by
  by_cases hne : out = []
  · subst hne
    obtain ⟨A, c, rfl, -⟩ := owns_slice ho
    refine (Any.slices_Contains_string_empty TryzlayCont A c (S t) w).mono ?_
    rintro e w2 ⟨rfl, rfl⟩
    exact ⟨rfl, rfl⟩
  · obtain ⟨g, cap, rfl, hc, _, hg, hcell⟩ := ho.shape hne
    refine (Any.slices_Contains_string TryzlayCont g 0 out.length cap (out.map S) (S t) w (by simp) (by omega) (fun j hj => by
      have hj' : j < out.length := by simpa using hj
      have := hcell j (out[j]) (List.getElem?_eq_getElem hj')
      rw [Nat.zero_add, this]
      simp [List.getElem?_eq_getElem hj'])).mono ?_
    rintro e w2 ⟨rfl, rfl⟩
    refine ⟨?_, rfl⟩
    refine congrArg Ending.returned (congrArg Value.bool ?_)
    rw [List.take_of_length_le (by simp)]
    have h1 := Lib.containsS_iff (out.map S) (S t)
    by_cases hcc : t ∈ out
    · rw [decide_eq_true hcc, h1]
      exact List.mem_map.2 ⟨t, hcc, rfl⟩
    · rw [decide_eq_false hcc, ← Bool.not_eq_true, h1]
      intro hm
      obtain ⟨x, hx, he⟩ := List.mem_map.1 hm
      have := S_inj he
      subst this
      exact hcc hx
theorem chain_next (h : Ft B p w0 F w) (t : Nm) (ht : t.length ≤ 1000000) : Calls Tryz.prog 24 #[pv p, .string (S t)] w (NextP w (nextF F t)) := callsIn_wide.1 (next_in 5 h t ht)
theorem nextF_len (h : Ft B p w0 F w) (t : Nm) : (nextF F t).1.length ≤ 100 := by
  unfold nextF
  split
  · simp
  · rename_i named hf
    have hl : named.length ≤ 100 := by
      unfold flk at hf
      obtain ⟨y, hy, rfl⟩ := Option.map_eq_some_iff.1 hf
      exact (h.small y (List.mem_of_find?_eq_some hy)).2
    split
    · split
      · exact hl
      · simp
    · split
      · rename_i q hq
        have := ups_len t q (List.mem_of_find?_eq_some hq)
        dsimp only
        omega
      · simp
/-- How a chain goes on. -/
theorem chainN_in {out : List Nm} {q : Nm} (n : Nat) (h : q ∈ out) : chainN F (n + 1) out q = ([], 111) := if_pos h
theorem chainN_long {out : List Nm} {q : Nm} (n : Nat) (h : q ∉ out) (h6 : 6 ≤ out.length) : chainN F (n + 1) out q = ([], 112) := (if_neg h).trans (if_pos h6)
theorem chainN_err {out : List Nm} {q : Nm} (n : Nat) (h : q ∉ out) (h6 : ¬ 6 ≤ out.length) (he : (nextF F q).2.2 ≠ 0) : chainN F (n + 1) out q = ([], (nextF F q).2.2) := ((if_neg h).trans (if_neg h6)).trans (if_pos he)
theorem chainN_on {out : List Nm} {q : Nm} (n : Nat) (h : q ∉ out) (h6 : ¬ 6 ≤ out.length) (he : (nextF F q).2.2 = 0) (hm : (nextF F q).2.1 = true) : chainN F (n + 1) out q = chainN F n (out ++ [q]) (nextF F q).1 := (((if_neg h).trans (if_neg h6)).trans (if_neg (fun k => k he))).trans (if_pos hm)
theorem chainN_end {out : List Nm} {q : Nm} (n : Nat) (h : q ∉ out) (h6 : ¬ 6 ≤ out.length) (he : (nextF F q).2.2 = 0) (hm : (nextF F q).2.1 = false) : chainN F (n + 1) out q = (out ++ [q], 0) := (((if_neg h).trans (if_neg h6)).trans (if_neg (fun k => k he))).trans (if_neg (by rw [hm]; decide))
set_option maxRecDepth 100000 in
set_option maxHeartbeats 4000000 in
theorem chain_chain (h : Ft B p w0 F w) (t : Nm) (ht : t.length ≤ 1000000) :
    Calls Tryz.prog 10 #[pv p, .string (S t)] w fun e w' => ∃ v, e = .returned (.tuple #[v, .int .i64 (chainF F t).2]) ∧ OwnS w' w.heap.size v (chainF F t).1 ∧ Below w.heap.size w w' := by
  obtain ⟨i0, hi, hz0, hz1, hz2⟩ := info_parts info9
  have HH := Lib.hid h
  clear h
  obtain ⟨r, hr⟩ : ∃ r, chainF F t = r := ⟨_, rfl⟩
  have HR := Lib.hid hr
  rw [hr]
  clear hr
  go_enter Tryz.func10, Tryz.ntmps10
  go_wp2_with fail
  go_loopw [1, 6, 7] (fun q u m wr => ∃ (out : List Nm) (x : Nm) (more : Bool), q = .string (S x) ∧ m = .bool more ∧ x.length ≤ 1000000 ∧ (out.length ≤ 6 ∨ more = false) ∧ out.length ≤ 7 ∧ OwnS wr w.heap.size u out ∧ (r = if more then chainN F (7 - out.length) out x else (out, 0)) ∧ Below w.heap.size w wr)
    (fun _ u m _ => match u, m with | .slice _ n _, .bool b => 2 * (10 - n) + (if b then 1 else 0) | _, _ => 0)
  case atStart => exact ⟨[], t, true, rfl, rfl, ht, .inl (by simp), by simp, World.ownsRow_nil _ _ _ _, by rw [if_pos rfl]; exact HR.out.symm, Below.refl _ _⟩
  case round =>
    obtain ⟨out, x, more, rfl, rfl, hxl, hl6, hl7, ho, hrr, hB⟩ := hrel
    obtain ⟨A, c, rfl, -⟩ := owns_slice ho
    have HB := Lib.hid hB
    have HO := Lib.hid ho
    have HRR := Lib.hid hrr
    have HK1 := Lib.hid (lib_has _ _ out x (by omega) _ ho)
    clear hB ho hrr
    cases more with
    | false =>
      have hrr := HRR.out
      rw [if_neg (by decide)] at hrr
      have HE := Lib.hid hrr
      clear hrr HRR HK1
      go_wp2
      go_ret2
      rw [HE.out]
      exact ⟨_, rfl, HO.out, HB.out⟩
    | true =>
      have hl : out.length ≤ 6 := by rcases hl6 with h | h; exact h; cases h
      clear hl6
      have hrr := HRR.out
      rw [if_pos rfl, show 7 - out.length = (6 - out.length) + 1 by omega] at hrr
      have HE := Lib.hid hrr
      clear hrr HRR
      by_cases hin : x ∈ out
      · have HE2 := Lib.hid (HE.out.trans (chainN_in _ hin))
        rw [decide_eq_true hin] at HK1
        clear HE hin
        go_wp2_with fail
        refine HK1.out.mono ?_
        rintro e w1 ⟨rfl, rfl⟩
        go_wp2_with fail
        go_ret2
        rw [HE2.out]
        exact ⟨_, rfl, World.ownsRow_nil _ _ _ _, HB.out⟩
      · rw [decide_eq_false hin] at HK1
        have HIN := Lib.hid hin
        clear hin
        by_cases h6 : 6 ≤ out.length
        · have HE2 := Lib.hid (HE.out.trans (chainN_long _ HIN.out h6))
          have h6' : (6 : Int) ≤ (out.length : Int) := by omega
          clear HE h6
          go_wp2_with fail
          refine HK1.out.mono ?_
          rintro e w1 ⟨rfl, rfl⟩
          go_wp2_with fail
          go_ret2
          rw [HE2.out]
          exact ⟨_, rfl, World.ownsRow_nil _ _ _ _, HB.out⟩
        · have h6' : ¬ (6 : Int) ≤ (out.length : Int) := by omega
          have HN := Lib.hid (chain_next (HH.out.below HB.out) x hxl)
          have hnl := nextF_len HH.out x
          obtain ⟨⟨nx, ok, er⟩, hnx⟩ : ∃ y, nextF F x = y := ⟨_, rfl⟩
          rw [hnx] at HN hnl
          have HX2 := Lib.hid hnx
          unfold NextP at HN
          dsimp only at HN hnl
          clear hnx
          by_cases her : er = 0
          · subst her
            cases ok with
            | true =>
              have HE2 := Lib.hid (HE.out.trans (chainN_on _ HIN.out h6 (by rw [HX2.out]) (by rw [HX2.out])))
              rw [HX2.out] at HE2
              dsimp only at HE2
              clear HE
              go_wp2_with fail
              refine HK1.out.mono ?_
              rintro e w1 ⟨rfl, rfl⟩
              go_wp2_with fail
              refine HN.out.mono ?_
              rintro e w2 ⟨rfl, hb⟩
              have HB2 := Lib.hid (HB.out.trans (hb.mono HB.out.size))
              have HO2 := Lib.hid (HO.out.below hb)
              clear hb HN HK1
              go_wp2_with (at_builtin; refine wpList_append_own _ rfl _ _ 30 rfl w.heap.size 9 i0 (.string ByteArray.empty) 1 16 Tryz.underlying30 hi hz0 hz1 hz2 rfl (by decide) _ _ _ rfl (World.ownsRow.alloc HO2.out _) ⟨_, 0, none⟩ 1 1 [.string (S x)] rfl rfl (cell_one_new _ _ _) (by simp [Value.oneCell']) (by have : maxLen = 9223372036854775807 := rfl; omega) (by omega) (by have := HB2.out.size; simp; omega) ?_; intro v' z1 hown' hgrow _; have HW := Lib.hid hown'; have HG := Lib.hid hgrow; clear hown' hgrow)
              have hown : OwnS z1 w.heap.size v' (out ++ [x]) := by
                show World.ownsRow _ _ _ _ _ _ _
                rw [List.length_append, List.length_singleton, List.map_append]
                exact HW.out
              obtain ⟨A', c', rfl, -⟩ := owns_slice HW.out
              go_roundw
              case rel =>
                refine ⟨out ++ [x], nx, true, rfl, rfl, by omega, .inl (by simp; omega), by simp; omega, hown, ?_, ?_⟩
                · rw [if_pos rfl, HE2.out, List.length_append, List.length_singleton, show 7 - (out.length + 1) = 6 - out.length by omega]
                · exact (HB2.out.alloc HB2.out.size _).grown HG.out (by have := HB2.out.size; simp; omega) (fun k e => (World.ownsRow.lt HO2.out k e).1)
              case measure => simp; omega
            | false =>
              have HE2 := Lib.hid (HE.out.trans (chainN_end _ HIN.out h6 (by rw [HX2.out]) (by rw [HX2.out])))
              clear HE
              go_wp2_with fail
              refine HK1.out.mono ?_
              rintro e w1 ⟨rfl, rfl⟩
              go_wp2_with fail
              refine HN.out.mono ?_
              rintro e w2 ⟨rfl, hb⟩
              have HB2 := Lib.hid (HB.out.trans (hb.mono HB.out.size))
              have HO2 := Lib.hid (HO.out.below hb)
              clear hb HN HK1
              go_wp2_with (at_builtin; refine wpList_append_own _ rfl _ _ 30 rfl w.heap.size 9 i0 (.string ByteArray.empty) 1 16 Tryz.underlying30 hi hz0 hz1 hz2 rfl (by decide) _ _ _ rfl (World.ownsRow.alloc HO2.out _) ⟨_, 0, none⟩ 1 1 [.string (S x)] rfl rfl (cell_one_new _ _ _) (by simp [Value.oneCell']) (by have : maxLen = 9223372036854775807 := rfl; omega) (by omega) (by have := HB2.out.size; simp; omega) ?_; intro v' z1 hown' hgrow _; have HW := Lib.hid hown'; have HG := Lib.hid hgrow; clear hown' hgrow)
              have hown : OwnS z1 w.heap.size v' (out ++ [x]) := by
                show World.ownsRow _ _ _ _ _ _ _
                rw [List.length_append, List.length_singleton, List.map_append]
                exact HW.out
              obtain ⟨A', c', rfl, -⟩ := owns_slice HW.out
              go_roundw
              case rel =>
                refine ⟨out ++ [x], nx, false, rfl, rfl, by omega, .inr rfl, by simp; omega, hown, ?_, ?_⟩
                · rw [if_neg (by decide), HE2.out]
                · exact (HB2.out.alloc HB2.out.size _).grown HG.out (by have := HB2.out.size; simp; omega) (fun k e => (World.ownsRow.lt HO2.out k e).1)
              case measure => simp; omega
          · have HE2 := Lib.hid (HE.out.trans (chainN_err _ HIN.out h6 (by rw [HX2.out]; exact her)))
            rw [HX2.out] at HE2
            dsimp only at HE2
            have her' : (er == 0) = false := by rw [beq_eq_false_iff_ne]; exact her
            clear HE her
            go_wp2_with fail
            refine HK1.out.mono ?_
            rintro e w1 ⟨rfl, rfl⟩
            go_wp2_with fail
            refine HN.out.mono ?_
            rintro e w2 ⟨rfl, hb⟩
            have HB2 := Lib.hid (HB.out.trans (hb.mono HB.out.size))
            clear hb HN HK1
            go_wp2_with fail
            go_ret2
            rw [HE2.out]
            exact ⟨_, rfl, World.ownsRow_nil _ _ _ _, HB2.out⟩
end Go.Proofs.YthgjpppbpgndcaaGreatDoor
