import Derived.Test.YtaccjifhgohfpaaDoorTagRef2
import Derived.Test.YtaccjifhgohfpaaDoorHeld2
import Derived.Deep.DeepCutAuto
/- The reference's Canon. -/
namespace Go.Proofs.YtaccjifhgohfpaaDoor
open Go.RowKit Go.Shelf Go.Proofs.YtaccjifhgohfpaaDoorW.PrintWords Go.Proofs.YtaccjifhgohfpaaDoorW.PrintMore

def RefP (w : World) (r : Option (List UInt8)) (e : Ending) (w' : World) : Prop := e = .returned (.tuple #[.string (S (r.getD [])), .bool r.isSome]) ∧ Below w.heap.size w w'
theorem idx9 (g n cap i : Nat) (hi : i < n) (W : World) : (Instr.indexAt 45 (.slice (some ⟨g, 0, none⟩) n cap) (.int .i64 (i : Int))).run Tryd.prog W = .ok (.pointer (some ⟨g, i, none⟩)) W := by
  have h2 : 0 ≤ (i : Int) ∧ (i : Int) < (n : Int) := ⟨by omega, by omega⟩
  have h3 : ({ block := g, off := 0, spot := none } : Addr).add i = ⟨g, i, none⟩ := by
    unfold Addr.add; split <;> simp_all
  go_simp
theorem splitR_len (l : List UInt8) : ∀ p ∈ splitR l, p.length ≤ l.length := fun p hp => by
  have h := split_len (normL l) (smallL p) (by rw [splitR_small]; exact List.mem_map.2 ⟨p, hp, rfl⟩)
  rwa [small_len, normL_length] at h
/-- What Canon has behind the script, behind the region. -/
def AftS (ps : List (List UInt8)) (r : Option (List UInt8)) (o : List UInt8) (k : Nat) : Prop := k ≤ ps.length ∧ o.length ≤ 12 ∧ regR o (ps.drop k) = r
def AftR (ps : List (List UInt8)) (r : Option (List UInt8)) (o : List UInt8) (k : Nat) : Prop := k ≤ ps.length ∧ o.length ≤ 20 ∧ varsR o [] (ps.drop k) = r
/-- What it has at the head of a round over the variants. -/
def VarI (ps : List (List UInt8)) (r : Option (List UInt8)) (f : Nat) (o : List UInt8) (i : Nat) : Prop := f ≤ i ∧ i ≤ ps.length ∧ o.length ≤ 20 + 9 * i ∧ varsR o ((ps.take i).drop f) (ps.drop i) = r
theorem headD_drop {α : Type} (ps : List α) (k : Nat) (h : k < ps.length) (d : α) : (ps.drop k).headD d = ps[k] := by
  rw [List.drop_eq_getElem_cons h]
  rfl
theorem VarI.stop {ps : List (List UInt8)} {r : Option (List UInt8)} {f : Nat} {o : List UInt8} {i : Nat} (h : VarI ps r f o i) (hi : i < ps.length) (hv : variantR ps[i] = false) : r = none := by
  obtain ⟨_, _, _, h⟩ := h
  rw [List.drop_eq_getElem_cons hi] at h
  unfold varsR at h
  rw [hv, if_neg (by simp)] at h
  exact h.symm
theorem VarI.twice {ps : List (List UInt8)} {r : Option (List UInt8)} {f : Nat} {o : List UInt8} {i j : Nat} (h : VarI ps r f o i) (hi : i < ps.length) (hf : f ≤ j) (hj : j < i) (hs : smallL (ps[j]'(by omega)) = smallL ps[i]) : r = none := by
  obtain ⟨_, _, _, h⟩ := h
  rw [List.drop_eq_getElem_cons hi] at h
  unfold varsR at h
  have hm : (((ps.take i).drop f).map smallL).contains (smallL ps[i]) = true := by
    rw [List.contains_iff_mem, List.mem_map]
    refine ⟨ps[j]'(by omega), ?_, hs⟩
    refine List.mem_iff_getElem.2 ⟨j - f, by rw [List.length_drop, List.length_take]; omega, ?_⟩
    rw [List.getElem_drop, List.getElem_take]
    congr 1
    omega
  rw [hm, if_pos rfl] at h
  split at h <;> exact h.symm
theorem VarI.next {ps : List (List UInt8)} {r : Option (List UInt8)} {f : Nat} {o : List UInt8} {i : Nat} (h : VarI ps r f o i) (hi : i < ps.length) (hv : variantR ps[i] = true) (hn : ∀ j (_ : f ≤ j) (hj : j < i), smallL (ps[j]'(by omega)) ≠ smallL ps[i]) : VarI ps r f (o ++ 45 :: smallL ps[i]) (i + 1) := by
  obtain ⟨h1, h2, h3, h⟩ := h
  have h8 : ps[i].length ≤ 8 := by
    unfold variantR at hv
    simp only [Bool.and_eq_true, Bool.or_eq_true, decide_eq_true_eq] at hv
    omega
  rw [List.drop_eq_getElem_cons hi] at h
  unfold varsR at h
  have hm : (((ps.take i).drop f).map smallL).contains (smallL ps[i]) = false := by
    rw [← Bool.not_eq_true, List.contains_iff_mem, List.mem_map]
    rintro ⟨q, hq, he⟩
    obtain ⟨j, hj, rfl⟩ := List.getElem_of_mem hq
    rw [List.length_drop, List.length_take] at hj
    rw [List.getElem_drop, List.getElem_take] at he
    exact hn (f + j) (by omega) (by omega) he
  rw [hv, if_pos rfl, hm, if_neg (by simp)] at h
  refine ⟨by omega, by omega, by rw [List.length_append, List.length_cons, small_len]; omega, ?_⟩
  rw [← h]
  congr 1
  rw [List.take_succ_eq_append_getElem hi, List.drop_append_of_le_length (by rw [List.length_take]; omega)]

set_option maxRecDepth 100000 in
set_option maxHeartbeats 16000000 in
theorem ref9_canon (l : List UInt8) (hl : l.length ≤ 1000000) (w : World) : Calls Tryd.prog 23 #[.string (S l)] w (RefP w (canonR l)) := by
  have hz := S_size l
  unfold canonR
  by_cases h40 : 40 < l.length
  · rw [if_pos h40]
    have h40' : (40 : Int) < (l.length : Int) := by omega
    clear h40
    go_enter Tryd.func23, Tryd.ntmps23
    go_wp2
    go_ret2
    exact ⟨rfl, Below.refl _ _⟩
  rw [if_neg h40]
  have h40' : ¬ (40 : Int) < (l.length : Int) := by omega
  have HSM := Lib.hid (ref9_small l hl w)
  have hr := S_eq (smallL l) rootL
  rw [show (S rootL).toList = [114, 111, 111, 116] from by first | rfl | decide +kernel] at hr
  by_cases hroot : smallL l = rootL
  · rw [if_pos hroot]
    rw [decide_eq_true hroot] at hr
    clear hroot h40
    go_enter Tryd.func23, Tryd.ntmps23
    go_wp2_with fail
    refine HSM.out.mono ?_
    rintro e w1 ⟨rfl, hb⟩
    go_wp2
    go_ret2
    exact ⟨rfl, hb⟩
  rw [if_neg hroot]
  rw [decide_eq_false hroot] at hr
  have HSP := Lib.hid (fun W => ref9_split l hl W)
  obtain ⟨ps, hps⟩ : ∃ ps, splitR l = ps := ⟨_, rfl⟩
  have hne := splitR_ne l
  have hplen := splitR_len l
  have hpn := splitR_count l
  rw [hps] at HSP hne hplen hpn ⊢
  obtain ⟨r, hres⟩ : ∃ r, partsR ps = r := ⟨_, rfl⟩
  rw [hres]
  have Hlen := Lib.hid (fun (p : List UInt8) (hp : p ∈ ps) => (Nat.le_trans (hplen p hp) (by omega) : p.length ≤ 1000))
  clear hroot h40 hps hplen
  obtain ⟨p0, rest, rfl⟩ : ∃ p0 rest, ps = p0 :: rest := by cases ps with
    | nil => exact absurd rfl hne
    | cons a b => exact ⟨a, b, rfl⟩
  unfold partsR at hres
  simp only [List.headD_cons, List.drop_one, List.tail_cons] at hres
  go_enter Tryd.func23, Tryd.ntmps23
  go_wp2_with fail
  refine HSM.out.mono ?_
  rintro e w1 ⟨rfl, hb⟩
  have HB1 := Lib.hid hb
  clear hb
  go_wp2_with fail
  refine (HSP.out w1).mono ?_
  rintro e w2 ⟨v, rfl, hown, hb⟩
  have HB2 := Lib.hid (HB1.out.trans (hb.mono HB1.out.size))
  obtain ⟨g, cap, rfl, hcap, -, hg, hcell⟩ := OwnS.shape hown hne
  have HCELL := Lib.hid hcell
  have c0 := hcell 0 p0 rfl
  have i0 := idx9 g (p0 :: rest).length cap 0 (by simp)
  have hn0 : 0 < (p0 :: rest).length := by simp
  have z0 := S_size p0
  have hl0 := Hlen.out p0 (by simp)
  have HA0 := Lib.hid (ref9_all_no p0 (by omega) w2)
  have HS0 := Lib.hid (ref9_small p0 (by omega) w2)
  obtain ⟨n, hn⟩ : ∃ n, (p0 :: rest).length = n := ⟨_, rfl⟩
  have Hn := Lib.hid hn
  rw [hn] at i0 hn0 hpn ⊢
  clear hb hown hne hcell hn hr h40' HSM HSP
  by_cases hlang : langR p0 = true
  · rw [if_pos hlang] at hres
    have h2 : ¬ (p0.length : Int) < 2 := by unfold langR at hlang; simp at hlang; omega
    have h3 : ¬ (3 : Int) < (p0.length : Int) := by unfold langR at hlang; simp at hlang; omega
    have ha : p0.all isLet = true := by
      unfold langR at hlang
      rw [Bool.and_eq_true] at hlang
      exact hlang.2
    rw [ha] at HA0
    have hl3 : p0.length ≤ 3 := by omega
    clear hlang ha
    go_wp2_with fail
    refine HA0.out.mono ?_
    rintro e w3 ⟨rfl, rfl⟩
    go_wp2_with fail
    refine HS0.out.mono ?_
    rintro e w3 ⟨rfl, hb⟩
    have HB3 := Lib.hid (HB2.out.trans (hb.mono HB2.out.size))
    have HD3 := Lib.hid hb
    have HRES := Lib.hid hres
    have HC3 := Lib.hid (fun j x h => pw_cell_below hb (HCELL.out j x h))
    have HCX := Lib.hid (fun W (h : Below w2.heap.size w2 W) j x hx => pw_cell_below h (HCELL.out j x hx))
    clear hb c0 i0 h2 h3 z0 hres
    go_upto_region 10 with fail
    go_cut [58] (fun s58 wx => s58 = .bool (scriptR (rest.headD [])) ∧ wx = w3)
    case first =>
      cases rest with
      | nil =>
        have hn1 : n = 1 := Hn.out.symm
        subst hn1
        go_wp2_with fail
        go_meet
        exact ⟨by simp [scriptR], rfl⟩
      | cons p1 rest =>
        have hn1 : (1 : Int) < (n : Int) := by have := Hn.out; simp at this; omega
        have c1 := HC3.out 1 p1 rfl
        have i1 := idx9 g n cap 1 (by omega)
        have z1 := S_size p1
        have HA1 := Lib.hid (ref9_all_no p1 (by have := Hlen.out p1 (by simp); omega) w3)
        by_cases h4 : p1.length = 4
        · have h4' : ((p1.length : Int) == 4) = true := by rw [h4]; rfl
          have hsc : scriptR p1 = p1.all isLet := by unfold scriptR; rw [decide_eq_true h4, Bool.true_and]
          have HSC := Lib.hid hsc
          clear h4 hsc
          cases hal : p1.all isLet with
          | true =>
            rw [hal] at HA1
            have HAL := Lib.hid hal
            clear hal
            go_wp2_with fail
            refine HA1.out.mono ?_
            rintro e w4 ⟨rfl, rfl⟩
            go_wp2_with fail
            go_meet
            exact ⟨by show _ = Value.bool (scriptR p1); rw [HSC.out, HAL.out], rfl⟩
          | false =>
            rw [hal] at HA1
            have HAL := Lib.hid hal
            clear hal
            go_wp2_with fail
            refine HA1.out.mono ?_
            rintro e w4 ⟨rfl, rfl⟩
            go_wp2_with fail
            go_meet
            exact ⟨by show _ = Value.bool (scriptR p1); rw [HSC.out, HAL.out], rfl⟩
        · have h4' : ((p1.length : Int) == 4) = false := by rw [beq_eq_false_iff_ne]; omega
          have hsc : scriptR p1 = false := by unfold scriptR; rw [decide_eq_false h4, Bool.false_and]
          have HSC := Lib.hid hsc
          clear h4 hsc
          go_wp2_with fail
          go_meet
          exact ⟨by show _ = Value.bool (scriptR p1); rw [HSC.out], rfl⟩
    case rest =>
      obtain ⟨rfl, rfl⟩ := hcut
      go_upto_if 58 with fail
      go_cut [5, 6] (fun s5 s6 wx => ∃ (o : List UInt8) (k : Nat), s5 = .string (S o) ∧ s6 = .int .i64 (k : Int) ∧ AftS (p0 :: rest) r o k ∧ Below w.heap.size w wx ∧ Below w2.heap.size w2 wx)
      case first =>
        cases hsc : scriptR (rest.headD []) with
        | false =>
          have HSC := Lib.hid hsc
          clear hsc
          go_wp2_with fail
          go_meet
          refine ⟨smallL p0, 1, rfl, rfl, ⟨by simp, by rw [small_len]; omega, ?_⟩, HB3.out, HD3.out⟩
          have := HRES.out
          unfold scrR at this
          rw [HSC.out, if_neg (by simp)] at this
          exact this
        | true =>
          cases rest with
          | nil => exact absurd hsc (by simp [scriptR])
          | cons p1 rest =>
            have hsc' : scriptR p1 = true := hsc
            have h4 : p1.length = 4 := by unfold scriptR at hsc'; rw [Bool.and_eq_true] at hsc'; exact of_decide_eq_true hsc'.1
            have hR : regR (smallL p0 ++ 45 :: capR p1) rest = r := by
              have := HRES.out
              unfold scrR at this
              rw [hsc, if_pos rfl] at this
              exact this
            have HR := Lib.hid hR
            have hn2 : 1 < n := by have := Hn.out; simp at this; omega
            have hn2I : (1 : Int) < (n : Int) := by omega
            obtain ⟨t1, e1⟩ : ∃ t, p1.take 1 = t := ⟨_, rfl⟩
            obtain ⟨t2, e2⟩ : ∃ t, p1.drop 1 = t := ⟨_, rfl⟩
            have l1 : t1.length = 1 := by rw [← e1, List.length_take]; omega
            have l2 : t2.length = 3 := by rw [← e2, List.length_drop]; omega
            have hl0' : (smallL p0).length ≤ 3 := by rw [small_len]; exact hl3
            have hx1 : (1 : Int) ≤ ((S p1).size : Int) := by rw [S_size]; omega
            have he1 : (S p1).extract 0 1 = S t1 := by rw [← e1]; exact S_take p1 1
            have he2 : (S p1).extract 1 (S p1).size = S t2 := by rw [S_size, ← e2]; exact S_drop p1 1
            have HCAP := Lib.hid (fun W => ref9_capital t1 (by omega) W)
            have HSML := Lib.hid (fun W => ref9_small t2 (by omega) W)
            obtain ⟨so, f0⟩ : ∃ x, S (smallL p0) = x := ⟨_, rfl⟩
            obtain ⟨so1, f1⟩ : ∃ x, S (smallL p0 ++ [45]) = x := ⟨_, rfl⟩
            obtain ⟨sh, fh⟩ : ∃ x, S (t1.map upU) = x := ⟨_, rfl⟩
            obtain ⟨st, ft⟩ : ∃ x, S (smallL t2) = x := ⟨_, rfl⟩
            obtain ⟨so2, f2⟩ : ∃ x, S (smallL p0 ++ [45] ++ t1.map upU) = x := ⟨_, rfl⟩
            obtain ⟨so3, f3⟩ : ∃ x, S (smallL p0 ++ 45 :: capR p1) = x := ⟨_, rfl⟩
            have q0 : so ++ ByteArray.mk #[45] = so1 := by rw [← f0, ← f1]; rfl
            have q1 : so1 ++ sh = so2 := by rw [← f1, ← fh, ← f2]; rfl
            have q2 : so2 ++ st = so3 := by
              rw [← f2, ← ft, ← f3, ← e1, ← e2]
              show S (smallL p0 ++ [45] ++ (p1.take 1).map upU ++ smallL (p1.drop 1)) = _
              unfold capR
              simp
            have z0 : ¬ 9223372036854775807 < so.size + 1 := by rw [← f0, S_size]; omega
            have z1 : ¬ 9223372036854775807 < so1.size + sh.size := by rw [← f1, ← fh, S_size, S_size]; simp; omega
            have z2 : ¬ 9223372036854775807 < so2.size + st.size := by rw [← f2, ← ft, S_size, S_size, small_len]; simp; omega
            have c1 := HC3.out 1 p1 rfl
            have hlo : (smallL p0 ++ 45 :: capR p1).length ≤ 12 := by
              rw [List.length_append, List.length_cons]
              have : (capR p1).length = 4 := by unfold capR; rw [List.length_append, List.length_map, small_len, e1, e2, l1, l2]
              omega
            have HLO := Lib.hid hlo
            have F3 := Lib.hid f3
            rw [fh] at HCAP
            rw [ft] at HSML
            have hSS := And.intro HD3.out (And.intro HB3.out c1)
            rw [f0]
            clear hsc hsc' hR e1 e2 f0 f1 fh ft f2 f3 hlo
            go_wp2_with fail
            refine wp_region_noPanic ?_
            refine wp_region_held_drew (S := fun W => Below w2.heap.size w2 W ∧ Below w.heap.size w W ∧ W.cell? ⟨g, 1, none⟩ = some (.string (S p1))) (by kernel_rfl) ⟨hSS.1.trans ((Below.refl _ _).drew.mono hSS.1.size), hSS.2.1.trans ((Below.refl _ _).drew.mono hSS.2.1.size), hSS.2.2⟩ (fun hHeld => ?_)
            clear hSS
            refine held_take (i := 0) (v := ?_) rfl (by kernel_rfl) (by kernel_rfl) (by kernel_rfl) (fun _ _ _ h => h) (by rfl) hHeld ?y11_0 ?_
            case y11_0 => (intro w hSw; (try dsimp only at hSw); go_simp; try with_reducible rfl)
            try simp only [Act.put, List.setIfInBounds_toArray, List.set_cons_zero, List.set_cons_succ]
            refine held_take (i := 1) (v := ?_) rfl (by kernel_rfl) (by kernel_rfl) (by kernel_rfl) (fun _ _ _ h => h) (by rfl) hHeld ?y11_1 ?_
            case y11_1 => (intro w hSw; (try dsimp only at hSw); go_simp; try with_reducible rfl)
            try simp only [Act.put, List.setIfInBounds_toArray, List.set_cons_zero, List.set_cons_succ]
            refine held_take (i := 2) (v := ?_) rfl (by kernel_rfl) (by kernel_rfl) (by kernel_rfl) (fun _ _ _ h => h) (by rfl) hHeld ?y11_2 ?_
            case y11_2 => (intro w hSw; (try dsimp only at hSw); go_simp; try with_reducible rfl)
            try simp only [Act.put, List.setIfInBounds_toArray, List.set_cons_zero, List.set_cons_succ]
            refine held_take (i := 3) (v := ?_) rfl (by kernel_rfl) (by kernel_rfl) (by kernel_rfl) (fun _ _ _ h => h) (by rfl) hHeld ?y11_3 ?_
            case y11_3 => (intro w hSw; (try dsimp only at hSw); go_simp; try with_reducible rfl)
            try simp only [Act.put, List.setIfInBounds_toArray, List.set_cons_zero, List.set_cons_succ]
            refine held_take (i := 4) (v := ?_) rfl (by kernel_rfl) (by kernel_rfl) (by kernel_rfl) (fun _ _ _ h => h) (by rfl) hHeld ?y11_4 ?_
            case y11_4 => (intro w hSw; (try dsimp only at hSw); go_simp; try with_reducible rfl)
            try simp only [Act.put, List.setIfInBounds_toArray, List.set_cons_zero, List.set_cons_succ]
            refine held_take (i := 5) (v := ?_) rfl (by kernel_rfl) (by kernel_rfl) (by kernel_rfl) (fun _ _ _ h => h) (by rfl) hHeld ?y11_5 ?_
            case y11_5 => (intro w hSw; (try dsimp only at hSw); go_simp; try with_reducible rfl)
            try simp only [Act.put, List.setIfInBounds_toArray, List.set_cons_zero, List.set_cons_succ]
            refine held_take (i := 6) (v := ?_) rfl (by kernel_rfl) (by kernel_rfl) (by kernel_rfl) (fun _ _ _ h => h) (by rfl) hHeld ?y11_6 ?_
            case y11_6 => (intro w hSw; (try dsimp only at hSw); go_simp; try with_reducible rfl)
            try simp only [Act.put, List.setIfInBounds_toArray, List.set_cons_zero, List.set_cons_succ]
            refine held_take (i := 9) (v := ?_) rfl (by kernel_rfl) (by kernel_rfl) (by kernel_rfl) (fun _ _ _ h => h) (by rfl) hHeld ?y11_9 ?_
            case y11_9 => (intro w hSw; (try dsimp only at hSw); go_simp; try with_reducible rfl)
            try simp only [Act.put, List.setIfInBounds_toArray, List.set_cons_zero, List.set_cons_succ]
            refine held_take (i := 10) (v := ?_) rfl (by kernel_rfl) (by kernel_rfl) (by kernel_rfl) (fun _ _ _ h => h) (by rfl) hHeld ?y11_10 ?_
            case y11_10 => (intro w hSw; (try dsimp only at hSw); go_simp; try with_reducible rfl)
            try simp only [Act.put, List.setIfInBounds_toArray, List.set_cons_zero, List.set_cons_succ]
            refine held_take (i := 11) (v := ?_) rfl (by kernel_rfl) (by kernel_rfl) (by kernel_rfl) (fun _ _ _ h => h) (by rfl) hHeld ?y11_11 ?_
            case y11_11 => (intro w hSw; (try dsimp only at hSw); go_simp; try with_reducible rfl)
            try simp only [Act.put, List.setIfInBounds_toArray, List.set_cons_zero, List.set_cons_succ]
            refine held_take (i := 12) (v := ?_) rfl (by kernel_rfl) (by kernel_rfl) (by kernel_rfl) (fun _ _ _ h => h) (by rfl) hHeld ?y11_12 ?_
            case y11_12 => (intro w hSw; (try dsimp only at hSw); go_simp; try with_reducible rfl)
            try simp only [Act.put, List.setIfInBounds_toArray, List.set_cons_zero, List.set_cons_succ]
            refine held_take (i := 13) (v := ?_) rfl (by kernel_rfl) (by kernel_rfl) (by kernel_rfl) (fun _ _ _ h => h) (by rfl) hHeld ?y11_13 ?_
            case y11_13 => (intro w hSw; (try dsimp only at hSw); go_simp; try with_reducible rfl)
            try simp only [Act.put, List.setIfInBounds_toArray, List.set_cons_zero, List.set_cons_succ]
            refine held_one (i := 7) (by kernel_rfl) rfl (fun K hK => ?_)
            (refine step_call (by rfl) _ _ (by rfl) Tryd.func47 (by kernel_rfl) (by kernel_rfl) (by simp only [List.map_toArray, List.map_cons, List.map_nil]; rfl) ((HCAP.out _).mono ?_); rintro e y7 ⟨rfl, hb7⟩; have hS7 : Below w2.heap.size w2 y7 ∧ Below w.heap.size w y7 ∧ y7.cell? ⟨g, 1, none⟩ = some (.string (S p1)) := ⟨hHeld.1.trans (hb7.mono hHeld.1.size), hHeld.2.1.trans (hb7.mono hHeld.2.1.size), pw_cell_below hb7 hHeld.2.2⟩; refine ⟨_, rfl, ?_⟩)
            refine hK.out _ _ ?_ (fun hHeld => ?_)
            · exact hS7
            clear hK K
            try simp only [Act.put, List.setIfInBounds_toArray, List.set_cons_zero, List.set_cons_succ]
            refine held_take (i := 8) (v := ?_) rfl (by kernel_rfl) (by kernel_rfl) (by kernel_rfl) (fun _ _ _ h => h) (by rfl) hHeld ?y11_8 ?_
            case y11_8 => (intro w hSw; (try dsimp only at hSw); go_simp; try with_reducible rfl)
            try simp only [Act.put, List.setIfInBounds_toArray, List.set_cons_zero, List.set_cons_succ]
            refine held_one (i := 14) (by kernel_rfl) rfl (fun K hK => ?_)
            (refine step_call (by rfl) _ _ (by rfl) Tryd.func45 (by kernel_rfl) (by kernel_rfl) (by simp only [List.map_toArray, List.map_cons, List.map_nil]; rfl) ((HSML.out _).mono ?_); rintro e y14 ⟨rfl, hb14⟩; have hS14 : Below w2.heap.size w2 y14 ∧ Below w.heap.size w y14 ∧ y14.cell? ⟨g, 1, none⟩ = some (.string (S p1)) := ⟨hHeld.1.trans (hb14.mono hHeld.1.size), hHeld.2.1.trans (hb14.mono hHeld.2.1.size), pw_cell_below hb14 hHeld.2.2⟩; refine ⟨_, rfl, ?_⟩)
            refine hK.out _ _ ?_ (fun hHeld => ?_)
            · exact hS14
            clear hK K
            try simp only [Act.put, List.setIfInBounds_toArray, List.set_cons_zero, List.set_cons_succ]
            refine held_take (i := 15) (v := ?_) rfl (by kernel_rfl) (by kernel_rfl) (by kernel_rfl) (fun _ _ _ h => h) (by rfl) hHeld ?y11_15 ?_
            case y11_15 => (intro w hSw; (try dsimp only at hSw); go_simp; try with_reducible rfl)
            try simp only [Act.put, List.setIfInBounds_toArray, List.set_cons_zero, List.set_cons_succ]
            refine held_take (i := 16) (v := ?_) rfl (by kernel_rfl) (by kernel_rfl) (by kernel_rfl) (fun _ _ _ h => h) (by rfl) hHeld ?y11_16 ?_
            case y11_16 => (intro w hSw; (try dsimp only at hSw); go_simp; try with_reducible rfl)
            try simp only [Act.put, List.setIfInBounds_toArray, List.set_cons_zero, List.set_cons_succ]
            refine wpAnyH_done (by kernel_rfl) ?_ _
            refine NoPanic.normal ?_
            go_wp2_with fail
            go_meet
            exact ⟨_, 2, by rw [F3.out], rfl, ⟨by simp, HLO.out, HR.out⟩, hHeld.2.1, hHeld.1⟩
      case rest =>
        obtain ⟨o, k, rfl, rfl, ⟨hk, ho, hreg⟩, hBw, hBd⟩ := hcut
        have HBc := Lib.hid hBw
        have HDc := Lib.hid hBd
        have HREG := Lib.hid hreg
        clear hBw hBd hreg HRES HC3 HB3 HD3
        have hkn : k ≤ n := by have := Hn.out; omega
        go_upto_region 13 with fail
        go_cut [110] (fun s wx => s = .bool (regionR (((p0 :: rest).drop k).headD [])) ∧ wx = wc)
        case first =>
          by_cases hlt : k < n
          · have hlt' : k < (p0 :: rest).length := by rw [Hn.out]; exact hlt
            have hltI : (k : Int) < (n : Int) := by omega
            obtain ⟨q, hq⟩ : ∃ q, (p0 :: rest)[k] = q := ⟨_, rfl⟩
            have HDQ := Lib.hid (by rw [headD_drop _ _ hlt', hq] : ((p0 :: rest).drop k).headD [] = q)
            have ck := HCX.out _ HDc.out k q (by rw [List.getElem?_eq_getElem hlt', hq])
            have ik := idx9 g n cap k hlt
            have zq := S_size q
            have hlq := Hlen.out q (by rw [← hq]; exact List.getElem_mem hlt')
            have HA := Lib.hid (ref9_all_no q (by omega) wc)
            have HN := Lib.hid (ref9_numbers q (by omega) wc)
            clear hq hlt'
            by_cases h2 : q.length = 2
            · have h2' : ((q.length : Int) == 2) = true := by rw [h2]; rfl
              have h3' : ((q.length : Int) == 3) = false := by rw [h2]; rfl
              have hrr : regionR q = q.all isLet := by unfold regionR; rw [decide_eq_true h2, decide_eq_false (by omega : ¬ q.length = 3)]; simp
              have HRR := Lib.hid hrr
              clear h2 hrr
              cases hal : q.all isLet with
              | true =>
                rw [hal] at HA
                have HAL := Lib.hid hal
                clear hal
                go_wp2_with fail
                refine HA.out.mono ?_
                rintro e w4 ⟨rfl, rfl⟩
                go_wp2_with fail
                go_meet
                exact ⟨by rw [HDQ.out, HRR.out, HAL.out], rfl⟩
              | false =>
                rw [hal] at HA
                have HAL := Lib.hid hal
                clear hal
                go_wp2_with fail
                refine HA.out.mono ?_
                rintro e w4 ⟨rfl, rfl⟩
                go_wp2_with fail
                go_meet
                exact ⟨by rw [HDQ.out, HRR.out, HAL.out], rfl⟩
            · have h2' : ((q.length : Int) == 2) = false := by rw [beq_eq_false_iff_ne]; omega
              by_cases h3 : q.length = 3
              · have h3' : ((q.length : Int) == 3) = true := by rw [h3]; rfl
                have hrr : regionR q = q.all isDig := by unfold regionR; rw [decide_eq_false h2, decide_eq_true h3]; simp
                have HRR := Lib.hid hrr
                clear h2 h3 hrr
                cases hal : q.all isDig with
                | true =>
                  rw [hal] at HN
                  have HAL := Lib.hid hal
                  clear hal
                  go_wp2_with fail
                  refine HN.out.mono ?_
                  rintro e w4 ⟨rfl, rfl⟩
                  go_wp2_with fail
                  go_meet
                  exact ⟨by rw [HDQ.out, HRR.out, HAL.out], rfl⟩
                | false =>
                  rw [hal] at HN
                  have HAL := Lib.hid hal
                  clear hal
                  go_wp2_with fail
                  refine HN.out.mono ?_
                  rintro e w4 ⟨rfl, rfl⟩
                  go_wp2_with fail
                  go_meet
                  exact ⟨by rw [HDQ.out, HRR.out, HAL.out], rfl⟩
              · have h3' : ((q.length : Int) == 3) = false := by rw [beq_eq_false_iff_ne]; omega
                have hrr : regionR q = false := by unfold regionR; rw [decide_eq_false h2, decide_eq_false h3]; rfl
                have HRR := Lib.hid hrr
                clear h2 h3 hrr
                go_wp2_with fail
                go_meet
                exact ⟨by rw [HDQ.out, HRR.out], rfl⟩
          · have hgt : ¬ (k : Int) < (n : Int) := by omega
            have hd : (p0 :: rest).drop k = [] := List.drop_eq_nil_of_le (by rw [Hn.out]; omega)
            have HDQ := Lib.hid hd
            clear hd
            go_wp2_with fail
            go_meet
            exact ⟨by rw [HDQ.out]; rfl, rfl⟩
        case rest =>
          obtain ⟨rfl, rfl⟩ := hcut
          go_upto_if 110 with fail
          go_cut [5, 6] (fun s5 s6 wx => ∃ (o : List UInt8) (k : Nat), s5 = .string (S o) ∧ s6 = .int .i64 (k : Int) ∧ AftR (p0 :: rest) r o k ∧ Below w.heap.size w wx ∧ Below w2.heap.size w2 wx)
          case first =>
            cases hrg : regionR (((p0 :: rest).drop k).headD []) with
            | false =>
              have HRG := Lib.hid hrg
              clear hrg
              go_wp2_with fail
              go_meet
              refine ⟨o, k, rfl, rfl, ⟨hk, by omega, ?_⟩, HBc.out, HDc.out⟩
              have := HREG.out
              unfold regR at this
              rw [HRG.out, if_neg (by simp)] at this
              exact this
            | true =>
              have hlt' : k < (p0 :: rest).length := by
                rcases Nat.lt_or_ge k (p0 :: rest).length with h | h
                · exact h
                · rw [List.drop_eq_nil_of_le h] at hrg
                  exact absurd hrg (by simp [regionR])
              have hlt : k < n := by rw [← Hn.out]; exact hlt'
              have hreg := HREG.out
              unfold regR at hreg
              rw [hrg, if_pos rfl, headD_drop _ _ hlt', List.drop_drop] at hreg
              rw [headD_drop _ _ hlt'] at hrg
              obtain ⟨q, hq⟩ : ∃ q, (p0 :: rest)[k] = q := ⟨_, rfl⟩
              rw [hq] at hreg hrg
              have hq3 : q.length ≤ 3 := by unfold regionR at hrg; simp at hrg; omega
              have ck := HCX.out _ HDc.out k q (by rw [List.getElem?_eq_getElem hlt', hq])
              have ik := idx9 g n cap k hlt
              have HCAP := Lib.hid (fun W => ref9_capital q (by omega) W)
              obtain ⟨so, f0⟩ : ∃ x, S o = x := ⟨_, rfl⟩
              obtain ⟨so1, f1⟩ : ∃ x, S (o ++ [45]) = x := ⟨_, rfl⟩
              obtain ⟨sh, fh⟩ : ∃ x, S (q.map upU) = x := ⟨_, rfl⟩
              obtain ⟨so2, f2⟩ : ∃ x, S (o ++ 45 :: q.map upU) = x := ⟨_, rfl⟩
              have q0 : so ++ ByteArray.mk #[45] = so1 := by rw [← f0, ← f1]; rfl
              have q1 : so1 ++ sh = so2 := by
                rw [← f1, ← fh, ← f2]
                show S (o ++ [45] ++ q.map upU) = _
                simp
              have z0 : ¬ 9223372036854775807 < so.size + 1 := by rw [← f0, S_size]; omega
              have z1 : ¬ 9223372036854775807 < so1.size + sh.size := by rw [← f1, ← fh, S_size, S_size]; simp; omega
              have hkI : (k : Int) < 9223372036854775807 := by omega
              have HAR : Hid (AftR (p0 :: rest) r (o ++ 45 :: q.map upU) (k + 1)) := Lib.hid ⟨by omega, by rw [List.length_append, List.length_cons, List.length_map]; omega, hreg⟩
              have F2 := Lib.hid f2
              rw [fh] at HCAP
              rw [f0]
              clear hrg hreg hq f0 f1 fh f2 hlt'
              go_wp2_with fail
              refine (HCAP.out _).mono ?_
              rintro e w4 ⟨rfl, hb⟩
              have HB4 := Lib.hid (HBc.out.trans (hb.mono HBc.out.size))
              have HD4 := Lib.hid (HDc.out.trans (hb.mono HDc.out.size))
              clear hb
              go_wp2_with fail
              go_meet
              exact ⟨_, k + 1, by rw [F2.out], by go_num, HAR.out, HB4.out, HD4.out⟩
          case rest =>
            obtain ⟨o2, f, rfl, rfl, ⟨hf, ho2, hvar⟩, hBw, hBd⟩ := hcut
            have HB5 := Lib.hid hBw
            have HD5 := Lib.hid hBd
            have HI0 : Hid (VarI (p0 :: rest) r f o2 f) := Lib.hid ⟨Nat.le_refl _, hf, by omega, by rw [List.drop_take_self, hvar]⟩
            clear hBw hBd hvar HREG HBc HDc
            have hfn : f ≤ n := by rw [← Hn.out]; exact hf
            go_wp2_with fail
            go_loopw [5, 6] (fun s5 s6 wr => ∃ (o : List UInt8) (i : Nat), s5 = .string (S o) ∧ s6 = .int .i64 (i : Int) ∧ VarI (p0 :: rest) r f o i ∧ Below w.heap.size w wr ∧ Below w2.heap.size w2 wr) (fun _ s6 _ => n - (intOf s6).toNat)
            case atStart => exact ⟨o2, f, rfl, rfl, HI0.out, HB5.out, HD5.out⟩
            case round =>
              obtain ⟨o3, i, rfl, rfl, hI, hBw, hBd⟩ := hrel
              have HB6 := Lib.hid hBw
              have HD6 := Lib.hid hBd
              have HI := Lib.hid hI
              have hin : i ≤ n := by rw [← Hn.out]; exact hI.2.1
              have hfi := hI.1
              have ho3 := hI.2.2.1
              clear hBw hBd hI HI0 HB5 HD5
              by_cases hlt : i < n
              · have hlt' : i < (p0 :: rest).length := by rw [Hn.out]; exact hlt
                have hltI : (i : Int) < (n : Int) := by omega
                have HIs := Lib.hid (fun h => HI.out.stop hlt' h)
                have HIt := Lib.hid (fun j (hf : f ≤ j) (hj : j < i) hs => HI.out.twice hlt' hf hj hs)
                have HIn := Lib.hid (fun hv hn => HI.out.next hlt' hv hn)
                obtain ⟨q, hq⟩ : ∃ q, (p0 :: rest)[i] = q := ⟨_, rfl⟩
                rw [hq] at HIs HIt HIn
                have ci := HCX.out _ HD6.out i q (by rw [List.getElem?_eq_getElem hlt', hq])
                have ii := idx9 g n cap i hlt
                have hlq := Hlen.out q (by rw [← hq]; exact List.getElem_mem hlt')
                have HV := Lib.hid (ref9_variant q (by omega) wr)
                have HQ := Lib.hid (show (p0 :: rest)[i]? = some q by rw [List.getElem?_eq_getElem hlt', hq])
                clear hq
                cases hv : variantR q with
                | false =>
                  rw [hv] at HV
                  have HRN := Lib.hid (HIs.out hv)
                  clear hv
                  go_wp2_with fail
                  refine HV.out.mono ?_
                  rintro e w7 ⟨rfl, rfl⟩
                  go_wp2_with fail
                  go_ret2
                  exact ⟨by rw [HRN.out]; rfl, HB6.out⟩
                | true =>
                  rw [hv] at HV
                  have HVT := Lib.hid hv
                  have hq8 : q.length ≤ 8 := by
                    unfold variantR at hv
                    simp only [Bool.and_eq_true, Bool.or_eq_true, decide_eq_true_eq] at hv
                    omega
                  clear hv
                  go_wp2_with fail
                  refine HV.out.mono ?_
                  rintro e w7 ⟨rfl, rfl⟩
                  go_wp2_with fail
                  obtain ⟨wo, rfl⟩ : ∃ wo : World, wo = wr := ⟨_, rfl⟩
                  go_loopw [8] (fun s8 wr => ∃ j : Nat, f ≤ j ∧ j ≤ i ∧ s8 = .int .i64 (j : Int) ∧ Hid (∀ j' (hf : f ≤ j') (hj : j' < j) (hb : j' < (p0 :: rest).length), smallL ((p0 :: rest)[j']'hb) ≠ smallL q) ∧ Below w.heap.size w wr ∧ Below w2.heap.size w2 wr) (fun s8 _ => i - (intOf s8).toNat)
                  case atStart => exact ⟨f, Nat.le_refl _, hfi, rfl, Lib.hid (fun j' h1 h2 => absurd h2 (by omega)), HB6.out, HD6.out⟩
                  case round =>
                    obtain ⟨j, hfj, hji, rfl, HNE, hBw, hBd⟩ := hrel
                    have HB7 := Lib.hid hBw
                    have HD7 := Lib.hid hBd
                    clear hBw hBd
                    have ci7 := HCX.out _ HD7.out i q HQ.out
                    by_cases hjl : j < i
                    · have hjI : (j : Int) < (i : Int) := by omega
                      have hjn : j < (p0 :: rest).length := by omega
                      obtain ⟨y, hy⟩ : ∃ y, (p0 :: rest)[j] = y := ⟨_, rfl⟩
                      have cj := HCX.out _ HD7.out j y (by rw [List.getElem?_eq_getElem hjn, hy])
                      have ij := idx9 g n cap j (by omega)
                      have hly := Hlen.out y (by rw [← hy]; exact List.getElem_mem hjn)
                      have HIT := Lib.hid (HIt.out j hfj hjl)
                      rw [hy] at HIT
                      have HNX : Hid (smallL y ≠ smallL q → ∀ j' (hf : f ≤ j') (hj : j' < j + 1) (hb : j' < (p0 :: rest).length), smallL ((p0 :: rest)[j']'hb) ≠ smallL q) := Lib.hid (fun hne j' h1 h2 h3 => by
                        rcases Nat.lt_or_ge j' j with h | h
                        · exact HNE.out j' h1 h h3
                        · obtain rfl : j' = j := by omega
                          rw [hy]
                          exact hne)
                      have HY := Lib.hid (fun W => ref9_small y (by omega) W)
                      have HQS := Lib.hid (fun W => ref9_small q (by omega) W)
                      have heq := S_eq (smallL y) (smallL q)
                      have hSS := And.intro HD7.out (And.intro HB7.out (And.intro cj ci7))
                      clear hy
                      by_cases hyq : smallL y = smallL q
                      · rw [decide_eq_true hyq] at heq
                        have HRN := Lib.hid (HIT.out hyq)
                        clear hyq
                        go_wp2_with fail
                        refine wp_region_noPanic ?_
                        refine wp_region_held_drew (S := fun W => Below w2.heap.size w2 W ∧ Below w.heap.size w W ∧ W.cell? ⟨g, j, none⟩ = some (.string (S y)) ∧ W.cell? ⟨g, i, none⟩ = some (.string (S q))) (by kernel_rfl) ⟨hSS.1.trans ((Below.refl _ _).drew.mono hSS.1.size), hSS.2.1.trans ((Below.refl _ _).drew.mono hSS.2.1.size), hSS.2.2⟩ (fun hHeld => ?_)
                        clear hSS
                        refine held_take (i := 0) (v := ?_) rfl (by kernel_rfl) (by kernel_rfl) (by kernel_rfl) (fun _ _ _ h => h) (by rfl) hHeld ?y24_0 ?_
                        case y24_0 => (intro w hSw; (try dsimp only at hSw); go_simp; try with_reducible rfl)
                        try simp only [Act.put, List.setIfInBounds_toArray, List.set_cons_zero, List.set_cons_succ]
                        refine held_take (i := 1) (v := ?_) rfl (by kernel_rfl) (by kernel_rfl) (by kernel_rfl) (fun _ _ _ h => h) (by rfl) hHeld ?y24_1 ?_
                        case y24_1 => (intro w hSw; (try dsimp only at hSw); go_simp; try with_reducible rfl)
                        try simp only [Act.put, List.setIfInBounds_toArray, List.set_cons_zero, List.set_cons_succ]
                        refine held_take (i := 2) (v := ?_) rfl (by kernel_rfl) (by kernel_rfl) (by kernel_rfl) (fun _ _ _ h => h) (by rfl) hHeld ?y24_2 ?_
                        case y24_2 => (intro w hSw; (try dsimp only at hSw); go_simp; try with_reducible rfl)
                        try simp only [Act.put, List.setIfInBounds_toArray, List.set_cons_zero, List.set_cons_succ]
                        refine held_take (i := 3) (v := ?_) rfl (by kernel_rfl) (by kernel_rfl) (by kernel_rfl) (fun _ _ _ h => h) (by rfl) hHeld ?y24_3 ?_
                        case y24_3 => (intro w hSw; (try dsimp only at hSw); go_simp; try with_reducible rfl)
                        try simp only [Act.put, List.setIfInBounds_toArray, List.set_cons_zero, List.set_cons_succ]
                        refine held_take (i := 5) (v := ?_) rfl (by kernel_rfl) (by kernel_rfl) (by kernel_rfl) (fun _ _ _ h => h) (by rfl) hHeld ?y24_5 ?_
                        case y24_5 => (intro w hSw; (try dsimp only at hSw); go_simp; try with_reducible rfl)
                        try simp only [Act.put, List.setIfInBounds_toArray, List.set_cons_zero, List.set_cons_succ]
                        refine held_take (i := 6) (v := ?_) rfl (by kernel_rfl) (by kernel_rfl) (by kernel_rfl) (fun _ _ _ h => h) (by rfl) hHeld ?y24_6 ?_
                        case y24_6 => (intro w hSw; (try dsimp only at hSw); go_simp; try with_reducible rfl)
                        try simp only [Act.put, List.setIfInBounds_toArray, List.set_cons_zero, List.set_cons_succ]
                        refine held_take (i := 7) (v := ?_) rfl (by kernel_rfl) (by kernel_rfl) (by kernel_rfl) (fun _ _ _ h => h) (by rfl) hHeld ?y24_7 ?_
                        case y24_7 => (intro w hSw; (try dsimp only at hSw); go_simp; try with_reducible rfl)
                        try simp only [Act.put, List.setIfInBounds_toArray, List.set_cons_zero, List.set_cons_succ]
                        refine held_take (i := 8) (v := ?_) rfl (by kernel_rfl) (by kernel_rfl) (by kernel_rfl) (fun _ _ _ h => h) (by rfl) hHeld ?y24_8 ?_
                        case y24_8 => (intro w hSw; (try dsimp only at hSw); go_simp; try with_reducible rfl)
                        try simp only [Act.put, List.setIfInBounds_toArray, List.set_cons_zero, List.set_cons_succ]
                        refine held_one (i := 4) (by kernel_rfl) rfl (fun K hK => ?_)
                        (refine step_call (by rfl) _ _ (by rfl) Tryd.func45 (by kernel_rfl) (by kernel_rfl) (by simp only [List.map_toArray, List.map_cons, List.map_nil]; rfl) ((HY.out _).mono ?_); rintro e y4 ⟨rfl, hb4⟩; have hS4 : Below w2.heap.size w2 y4 ∧ Below w.heap.size w y4 ∧ y4.cell? ⟨g, j, none⟩ = some (.string (S y)) ∧ y4.cell? ⟨g, i, none⟩ = some (.string (S q)) := ⟨hHeld.1.trans (hb4.mono hHeld.1.size), hHeld.2.1.trans (hb4.mono hHeld.2.1.size), pw_cell_below hb4 hHeld.2.2.1, pw_cell_below hb4 hHeld.2.2.2⟩; refine ⟨_, rfl, ?_⟩)
                        refine hK.out _ _ ?_ (fun hHeld => ?_)
                        · exact hS4
                        clear hK K
                        try simp only [Act.put, List.setIfInBounds_toArray, List.set_cons_zero, List.set_cons_succ]
                        refine held_one (i := 9) (by kernel_rfl) rfl (fun K hK => ?_)
                        (refine step_call (by rfl) _ _ (by rfl) Tryd.func45 (by kernel_rfl) (by kernel_rfl) (by simp only [List.map_toArray, List.map_cons, List.map_nil]; rfl) ((HQS.out _).mono ?_); rintro e y9 ⟨rfl, hb9⟩; have hS9 : Below w2.heap.size w2 y9 ∧ Below w.heap.size w y9 ∧ y9.cell? ⟨g, j, none⟩ = some (.string (S y)) ∧ y9.cell? ⟨g, i, none⟩ = some (.string (S q)) := ⟨hHeld.1.trans (hb9.mono hHeld.1.size), hHeld.2.1.trans (hb9.mono hHeld.2.1.size), pw_cell_below hb9 hHeld.2.2.1, pw_cell_below hb9 hHeld.2.2.2⟩; refine ⟨_, rfl, ?_⟩)
                        refine hK.out _ _ ?_ (fun hHeld => ?_)
                        · exact hS9
                        clear hK K
                        try simp only [Act.put, List.setIfInBounds_toArray, List.set_cons_zero, List.set_cons_succ]
                        refine held_take (i := 10) (v := ?_) rfl (by kernel_rfl) (by kernel_rfl) (by kernel_rfl) (fun _ _ _ h => h) (by rfl) hHeld ?y24_10 ?_
                        case y24_10 => (intro w hSw; (try dsimp only at hSw); go_simp; try with_reducible rfl)
                        try simp only [Act.put, List.setIfInBounds_toArray, List.set_cons_zero, List.set_cons_succ]
                        refine wpAnyH_done (by kernel_rfl) ?_ _
                        refine NoPanic.normal ?_
                        go_wp2_with fail
                        go_ret2
                        exact ⟨by rw [HRN.out]; rfl, hHeld.2.1⟩
                      · rw [decide_eq_false hyq] at heq
                        have HNN := Lib.hid (HNX.out hyq)
                        clear hyq
                        go_wp2_with fail
                        refine wp_region_noPanic ?_
                        refine wp_region_held_drew (S := fun W => Below w2.heap.size w2 W ∧ Below w.heap.size w W ∧ W.cell? ⟨g, j, none⟩ = some (.string (S y)) ∧ W.cell? ⟨g, i, none⟩ = some (.string (S q))) (by kernel_rfl) ⟨hSS.1.trans ((Below.refl _ _).drew.mono hSS.1.size), hSS.2.1.trans ((Below.refl _ _).drew.mono hSS.2.1.size), hSS.2.2⟩ (fun hHeld => ?_)
                        clear hSS
                        refine held_take (i := 0) (v := ?_) rfl (by kernel_rfl) (by kernel_rfl) (by kernel_rfl) (fun _ _ _ h => h) (by rfl) hHeld ?y24_0 ?_
                        case y24_0 => (intro w hSw; (try dsimp only at hSw); go_simp; try with_reducible rfl)
                        try simp only [Act.put, List.setIfInBounds_toArray, List.set_cons_zero, List.set_cons_succ]
                        refine held_take (i := 1) (v := ?_) rfl (by kernel_rfl) (by kernel_rfl) (by kernel_rfl) (fun _ _ _ h => h) (by rfl) hHeld ?y24_1 ?_
                        case y24_1 => (intro w hSw; (try dsimp only at hSw); go_simp; try with_reducible rfl)
                        try simp only [Act.put, List.setIfInBounds_toArray, List.set_cons_zero, List.set_cons_succ]
                        refine held_take (i := 2) (v := ?_) rfl (by kernel_rfl) (by kernel_rfl) (by kernel_rfl) (fun _ _ _ h => h) (by rfl) hHeld ?y24_2 ?_
                        case y24_2 => (intro w hSw; (try dsimp only at hSw); go_simp; try with_reducible rfl)
                        try simp only [Act.put, List.setIfInBounds_toArray, List.set_cons_zero, List.set_cons_succ]
                        refine held_take (i := 3) (v := ?_) rfl (by kernel_rfl) (by kernel_rfl) (by kernel_rfl) (fun _ _ _ h => h) (by rfl) hHeld ?y24_3 ?_
                        case y24_3 => (intro w hSw; (try dsimp only at hSw); go_simp; try with_reducible rfl)
                        try simp only [Act.put, List.setIfInBounds_toArray, List.set_cons_zero, List.set_cons_succ]
                        refine held_take (i := 5) (v := ?_) rfl (by kernel_rfl) (by kernel_rfl) (by kernel_rfl) (fun _ _ _ h => h) (by rfl) hHeld ?y24_5 ?_
                        case y24_5 => (intro w hSw; (try dsimp only at hSw); go_simp; try with_reducible rfl)
                        try simp only [Act.put, List.setIfInBounds_toArray, List.set_cons_zero, List.set_cons_succ]
                        refine held_take (i := 6) (v := ?_) rfl (by kernel_rfl) (by kernel_rfl) (by kernel_rfl) (fun _ _ _ h => h) (by rfl) hHeld ?y24_6 ?_
                        case y24_6 => (intro w hSw; (try dsimp only at hSw); go_simp; try with_reducible rfl)
                        try simp only [Act.put, List.setIfInBounds_toArray, List.set_cons_zero, List.set_cons_succ]
                        refine held_take (i := 7) (v := ?_) rfl (by kernel_rfl) (by kernel_rfl) (by kernel_rfl) (fun _ _ _ h => h) (by rfl) hHeld ?y24_7 ?_
                        case y24_7 => (intro w hSw; (try dsimp only at hSw); go_simp; try with_reducible rfl)
                        try simp only [Act.put, List.setIfInBounds_toArray, List.set_cons_zero, List.set_cons_succ]
                        refine held_take (i := 8) (v := ?_) rfl (by kernel_rfl) (by kernel_rfl) (by kernel_rfl) (fun _ _ _ h => h) (by rfl) hHeld ?y24_8 ?_
                        case y24_8 => (intro w hSw; (try dsimp only at hSw); go_simp; try with_reducible rfl)
                        try simp only [Act.put, List.setIfInBounds_toArray, List.set_cons_zero, List.set_cons_succ]
                        refine held_one (i := 4) (by kernel_rfl) rfl (fun K hK => ?_)
                        (refine step_call (by rfl) _ _ (by rfl) Tryd.func45 (by kernel_rfl) (by kernel_rfl) (by simp only [List.map_toArray, List.map_cons, List.map_nil]; rfl) ((HY.out _).mono ?_); rintro e y4 ⟨rfl, hb4⟩; have hS4 : Below w2.heap.size w2 y4 ∧ Below w.heap.size w y4 ∧ y4.cell? ⟨g, j, none⟩ = some (.string (S y)) ∧ y4.cell? ⟨g, i, none⟩ = some (.string (S q)) := ⟨hHeld.1.trans (hb4.mono hHeld.1.size), hHeld.2.1.trans (hb4.mono hHeld.2.1.size), pw_cell_below hb4 hHeld.2.2.1, pw_cell_below hb4 hHeld.2.2.2⟩; refine ⟨_, rfl, ?_⟩)
                        refine hK.out _ _ ?_ (fun hHeld => ?_)
                        · exact hS4
                        clear hK K
                        try simp only [Act.put, List.setIfInBounds_toArray, List.set_cons_zero, List.set_cons_succ]
                        refine held_one (i := 9) (by kernel_rfl) rfl (fun K hK => ?_)
                        (refine step_call (by rfl) _ _ (by rfl) Tryd.func45 (by kernel_rfl) (by kernel_rfl) (by simp only [List.map_toArray, List.map_cons, List.map_nil]; rfl) ((HQS.out _).mono ?_); rintro e y9 ⟨rfl, hb9⟩; have hS9 : Below w2.heap.size w2 y9 ∧ Below w.heap.size w y9 ∧ y9.cell? ⟨g, j, none⟩ = some (.string (S y)) ∧ y9.cell? ⟨g, i, none⟩ = some (.string (S q)) := ⟨hHeld.1.trans (hb9.mono hHeld.1.size), hHeld.2.1.trans (hb9.mono hHeld.2.1.size), pw_cell_below hb9 hHeld.2.2.1, pw_cell_below hb9 hHeld.2.2.2⟩; refine ⟨_, rfl, ?_⟩)
                        refine hK.out _ _ ?_ (fun hHeld => ?_)
                        · exact hS9
                        clear hK K
                        try simp only [Act.put, List.setIfInBounds_toArray, List.set_cons_zero, List.set_cons_succ]
                        refine held_take (i := 10) (v := ?_) rfl (by kernel_rfl) (by kernel_rfl) (by kernel_rfl) (fun _ _ _ h => h) (by rfl) hHeld ?y24_10 ?_
                        case y24_10 => (intro w hSw; (try dsimp only at hSw); go_simp; try with_reducible rfl)
                        try simp only [Act.put, List.setIfInBounds_toArray, List.set_cons_zero, List.set_cons_succ]
                        refine wpAnyH_done (by kernel_rfl) ?_ _
                        refine NoPanic.normal ?_
                        go_wp2_with fail
                        go_roundw
                        case rel => exact ⟨j + 1, by omega, by omega, by go_num, HNN, hHeld.2.1, hHeld.1⟩
                        case measure => simp [intOf]; omega
                    · obtain rfl : j = i := by omega
                      have hjI : ¬ (j : Int) < (j : Int) := by omega
                      have HNV := Lib.hid (HIn.out HVT.out (fun j' h1 h2 => HNE.out j' h1 h2 (by omega)))
                      have HQS := Lib.hid (fun W => ref9_small q (by omega) W)
                      obtain ⟨so, f0⟩ : ∃ x, S o3 = x := ⟨_, rfl⟩
                      obtain ⟨so1, f1⟩ : ∃ x, S (o3 ++ [45]) = x := ⟨_, rfl⟩
                      obtain ⟨sh, fh⟩ : ∃ x, S (smallL q) = x := ⟨_, rfl⟩
                      obtain ⟨so2, f2⟩ : ∃ x, S (o3 ++ 45 :: smallL q) = x := ⟨_, rfl⟩
                      have q0 : so ++ ByteArray.mk #[45] = so1 := by rw [← f0, ← f1]; rfl
                      have q1 : so1 ++ sh = so2 := by
                        rw [← f1, ← fh, ← f2]
                        show S (o3 ++ [45] ++ smallL q) = _
                        simp
                      have z0 : ¬ 9223372036854775807 < so.size + 1 := by rw [← f0, S_size]; omega
                      have z1 : ¬ 9223372036854775807 < so1.size + sh.size := by rw [← f1, ← fh, S_size, S_size, small_len]; simp; omega
                      have F2 := Lib.hid f2
                      rw [fh] at HQS
                      rw [f0]
                      clear f0 f1 fh f2
                      go_wp2_with fail
                      refine (HQS.out _).mono ?_
                      rintro e w8 ⟨rfl, hb⟩
                      have HB8 := Lib.hid (HB7.out.trans (hb.mono HB7.out.size))
                      have HD8 := Lib.hid (HD7.out.trans (hb.mono HD7.out.size))
                      clear hb
                      go_wp2_with fail
                      go_roundw
                      case rel => exact ⟨_, j + 1, by rw [F2.out], by go_num, HNV.out, HB8.out, HD8.out⟩
                      case measure => simp [intOf]; omega
              · have hgt : ¬ (i : Int) < (n : Int) := by omega
                have hres : r = some o3 := by
                  obtain ⟨_, _, _, h⟩ := HI.out
                  have e : (p0 :: rest).drop i = [] := List.drop_eq_nil_of_le (by rw [Hn.out]; omega)
                  rw [e] at h
                  exact h.symm
                have HRS := Lib.hid hres
                clear hres
                go_wp2_with fail
                go_ret2
                exact ⟨by rw [HRS.out]; rfl, HB6.out⟩
  · rw [if_neg hlang] at hres
    have HRN := Lib.hid hres.symm
    have hlang' : ¬ (2 ≤ p0.length ∧ p0.length ≤ 3 ∧ p0.all isLet = true) := fun h => hlang (by unfold langR; simp [h])
    clear hres hlang
    by_cases h2 : p0.length < 2
    · have h2' : (p0.length : Int) < 2 := by omega
      clear h2 hlang'
      go_wp2_with fail
      go_ret2
      exact ⟨by rw [HRN.out]; rfl, HB2.out⟩
    · have h2' : ¬ (p0.length : Int) < 2 := by omega
      by_cases h3 : 3 < p0.length
      · have h3' : (3 : Int) < (p0.length : Int) := by omega
        clear h2 h3 hlang'
        go_wp2_with fail
        go_ret2
        exact ⟨by rw [HRN.out]; rfl, HB2.out⟩
      · have h3' : ¬ (3 : Int) < (p0.length : Int) := by omega
        have ha : p0.all isLet = false := by
          rw [← Bool.not_eq_true]
          exact fun h => hlang' ⟨by omega, by omega, h⟩
        rw [ha] at HA0
        clear h2 h3 hlang' ha
        go_wp2_with fail
        refine HA0.out.mono ?_
        rintro e w3 ⟨rfl, rfl⟩
        go_wp2_with fail
        go_ret2
        exact ⟨by rw [HRN.out]; rfl, HB2.out⟩
end Go.Proofs.YtaccjifhgohfpaaDoor
