import Derived.Test.YtaccjifhgohfpaaDoorTagBytes
/- The reference's small functions: Letter, Digit, all, numbers, variant, Split. -/
namespace Go.Proofs.YtaccjifhgohfpaaDoor
open Go.RowKit Go.Shelf Go.Proofs.YtaccjifhgohfpaaDoorW.PrintWords Go.Proofs.YtaccjifhgohfpaaDoorW.PrintMore

theorem ref6_letter (b : UInt8) (W : World) : Calls Tryd.prog 65 #[.int .u8 (b.toNat : Int)] W fun e w' => e = .returned (.bool (isLet b)) ∧ W = w' := by
  have hb := b.toNat_lt
  obtain ⟨x, hx⟩ : ∃ x : Int, (b.toNat : Int) = x := ⟨_, rfl⟩
  have h0 : 0 ≤ x := by omega
  have h255 : x < 256 := by omega
  have he : isLet b = (decide (97 ≤ x) && decide (x ≤ 122) || decide (65 ≤ x) && decide (x ≤ 90)) := by
    subst hx
    unfold isLet isLow isUp
    have e : ∀ m n : Nat, decide ((m : Int) ≤ (n : Int)) = decide (m ≤ n) := fun m n => decide_eq_decide.2 (by omega)
    rw [← e, ← e, ← e, ← e]
    rfl
  rw [hx, he]
  clear hx hb he
  by_cases h1 : 97 ≤ x
  · by_cases h2 : x ≤ 122
    · go_enter Tryd.func65, Tryd.ntmps65
      go_wp2_with fail
      go_ret
      exact ⟨by first | (simp; done) | (simp; omega), rfl⟩
    · have h3 : ¬ x ≤ 90 := by omega
      have h4 : 65 ≤ x := by omega
      go_enter Tryd.func65, Tryd.ntmps65
      go_wp2_with fail
      go_ret
      exact ⟨by first | (simp; done) | (simp; omega), rfl⟩
  · by_cases h2 : 65 ≤ x
    · by_cases h3 : x ≤ 90
      · go_enter Tryd.func65, Tryd.ntmps65
        go_wp2_with fail
        go_ret
        exact ⟨by first | (simp; done) | (simp; omega), rfl⟩
      · go_enter Tryd.func65, Tryd.ntmps65
        go_wp2_with fail
        go_ret
        exact ⟨by first | (simp; done) | (simp; omega), rfl⟩
    · go_enter Tryd.func65, Tryd.ntmps65
      go_wp2_with fail
      go_ret
      exact ⟨by first | (simp; done) | (simp; omega), rfl⟩
theorem ref6_digit (b : UInt8) (W : World) : Calls Tryd.prog 66 #[.int .u8 (b.toNat : Int)] W fun e w' => e = .returned (.bool (isDig b)) ∧ W = w' := by
  have hb := b.toNat_lt
  unfold isDig
  by_cases h1 : 48 ≤ b.toNat
  · by_cases h2 : b.toNat ≤ 57
    · go_enter Tryd.func66, Tryd.ntmps66
      go_wp2_with fail
      go_ret
      exact ⟨by simp [h1, h2]; omega, rfl⟩
    · go_enter Tryd.func66, Tryd.ntmps66
      go_wp2_with fail
      go_ret
      exact ⟨by simp [h2]; omega, rfl⟩
  · go_enter Tryd.func66, Tryd.ntmps66
    go_wp2_with fail
    go_ret
    exact ⟨by simp, rfl⟩

/-- A byte of a string. -/
theorem idxS (l : List UInt8) (i : Nat) (hi : i < l.length) (W : World) : (Instr.index 9 (.string (S l)) (.int .i64 (i : Int))).run Tryd.prog W = .ok (.int .u8 ((l[i]).toNat : Int)) W := by
  have hz := S_size l
  have h2 : (i : Int) < (l.length : Int) := by omega
  have h3 : 0 ≤ (i : Int) := by omega
  have hg : (S l)[i]! = l[i] := by
    have : i < (S l).size := by rw [hz]; exact hi
    rw [getElem!_pos (S l) i this]
    rfl
  go_simp
  try rfl

theorem all_step (p : UInt8 → Bool) {l : List UInt8} {k : Nat} (h : k < l.length) : (l.take (k + 1)).all p = ((l.take k).all p && p l[k]) := by
  rw [List.take_succ_eq_append_getElem h, List.all_append]
  simp
theorem all_no (p : UInt8 → Bool) {l : List UInt8} {k : Nat} (h : k < l.length) (hp : p l[k] = false) : l.all p = false := by
  rw [← Bool.not_eq_true, List.all_eq_true]
  intro h2
  rw [h2 l[k] (List.getElem_mem h)] at hp
  cases hp

set_option maxHeartbeats 1000000 in
theorem ref9_all_no (l : List UInt8) (hl : l.length ≤ 1000000) (W : World) : Calls Tryd.prog 46 #[.string (S l), .bool false] W fun e w' => e = .returned (.bool (l.all isLet)) ∧ W = w' := by
  have hz := S_size l
  go_enter Tryd.func46, Tryd.ntmps46
  go_wp2_with fail
  go_loop [5] (fun i => ∃ k : Nat, k ≤ l.length ∧ i = .int .i64 (k : Int) ∧ Hid ((l.take k).all isLet = true)) (fun i => l.length - (intOf i).toNat)
  case atStart => exact ⟨0, Nat.zero_le _, rfl, Lib.hid rfl⟩
  case round =>
    obtain ⟨k, hk, rfl, HA⟩ := hrel
    by_cases hlt : k < l.length
    · have hi := idxS l k hlt
      have HF := Lib.hid (ref6_letter l[k] W)
      have HT := Lib.hid (all_step isLet hlt)
      cases hp : isLet l[k] with
      | true =>
        rw [hp] at HF
        have Hp := Lib.hid hp
        clear hp
        generalize ((l[k]).toNat : Int) = x at hi HF
        go_wp2_with fail
        refine HF.out.mono ?_
        rintro e w1 ⟨rfl, rfl⟩
        go_wp2_with fail
        go_round
        case rel => exact ⟨k + 1, by omega, by go_num, Lib.hid (by rw [HT.out, HA.out, Hp.out]; rfl)⟩
        case measure => simp [intOf]; omega
      | false =>
        rw [hp] at HF
        have HN := Lib.hid (all_no isLet hlt hp)
        clear hp
        generalize ((l[k]).toNat : Int) = x at hi HF
        go_wp2_with fail
        refine HF.out.mono ?_
        rintro e w1 ⟨rfl, rfl⟩
        go_wp2_with fail
        go_ret
        exact ⟨by rw [HN.out]; rfl, rfl⟩
    · obtain rfl : k = l.length := by omega
      have HAll := Lib.hid (by have := HA.out; rwa [List.take_length] at this : l.all isLet = true)
      go_wp2_with fail
      go_ret
      exact ⟨by rw [HAll.out]; rfl, rfl⟩
set_option maxHeartbeats 1000000 in
theorem ref9_all_yes (l : List UInt8) (hl : l.length ≤ 1000000) (W : World) : Calls Tryd.prog 46 #[.string (S l), .bool true] W fun e w' => e = .returned (.bool (l.all isLD)) ∧ W = w' := by
  have hz := S_size l
  go_enter Tryd.func46, Tryd.ntmps46
  go_wp2_with fail
  go_loop [5] (fun i => ∃ k : Nat, k ≤ l.length ∧ i = .int .i64 (k : Int) ∧ Hid ((l.take k).all isLD = true)) (fun i => l.length - (intOf i).toNat)
  case atStart => exact ⟨0, Nat.zero_le _, rfl, Lib.hid rfl⟩
  case round =>
    obtain ⟨k, hk, rfl, HA⟩ := hrel
    by_cases hlt : k < l.length
    · have hi := idxS l k hlt
      have HF := Lib.hid (ref6_letter l[k] W)
      have HD := Lib.hid (ref6_digit l[k] W)
      have HT := Lib.hid (all_step isLD hlt)
      cases hp : isLet l[k] with
      | true =>
        rw [hp] at HF
        have Hp : Hid (isLD l[k] = true) := Lib.hid (by unfold isLD; rw [hp]; rfl)
        clear hp HD
        generalize ((l[k]).toNat : Int) = x at hi HF
        go_wp2_with fail
        refine HF.out.mono ?_
        rintro e w1 ⟨rfl, rfl⟩
        go_wp2_with fail
        go_round
        case rel => exact ⟨k + 1, by omega, by go_num, Lib.hid (by rw [HT.out, HA.out, Hp.out]; rfl)⟩
        case measure => simp [intOf]; omega
      | false =>
        rw [hp] at HF
        cases hd : isDig l[k] with
        | true =>
          rw [hd] at HD
          have Hp : Hid (isLD l[k] = true) := Lib.hid (by unfold isLD; rw [hd, Bool.or_true])
          clear hp hd
          generalize ((l[k]).toNat : Int) = x at hi HF HD
          go_wp2_with fail
          refine HF.out.mono ?_
          rintro e w1 ⟨rfl, rfl⟩
          go_wp2_with fail
          refine HD.out.mono ?_
          rintro e w1 ⟨rfl, rfl⟩
          go_wp2_with fail
          go_round
          case rel => exact ⟨k + 1, by omega, by go_num, Lib.hid (by rw [HT.out, HA.out, Hp.out]; rfl)⟩
          case measure => simp [intOf]; omega
        | false =>
          rw [hd] at HD
          have HN := Lib.hid (all_no isLD hlt (by unfold isLD; rw [hp, hd]; rfl))
          clear hp hd
          generalize ((l[k]).toNat : Int) = x at hi HF HD
          go_wp2_with fail
          refine HF.out.mono ?_
          rintro e w1 ⟨rfl, rfl⟩
          go_wp2_with fail
          refine HD.out.mono ?_
          rintro e w1 ⟨rfl, rfl⟩
          go_wp2_with fail
          go_ret
          exact ⟨by rw [HN.out]; rfl, rfl⟩
    · obtain rfl : k = l.length := by omega
      have HAll := Lib.hid (by have := HA.out; rwa [List.take_length] at this : l.all isLD = true)
      go_wp2_with fail
      go_ret
      exact ⟨by rw [HAll.out]; rfl, rfl⟩
set_option maxHeartbeats 1000000 in
theorem ref9_numbers (l : List UInt8) (hl : l.length ≤ 1000000) (W : World) : Calls Tryd.prog 48 #[.string (S l)] W fun e w' => e = .returned (.bool (l.all isDig)) ∧ W = w' := by
  have hz := S_size l
  go_enter Tryd.func48, Tryd.ntmps48
  go_wp2_with fail
  go_loop [3] (fun i => ∃ k : Nat, k ≤ l.length ∧ i = .int .i64 (k : Int) ∧ Hid ((l.take k).all isDig = true)) (fun i => l.length - (intOf i).toNat)
  case atStart => exact ⟨0, Nat.zero_le _, rfl, Lib.hid rfl⟩
  case round =>
    obtain ⟨k, hk, rfl, HA⟩ := hrel
    by_cases hlt : k < l.length
    · have hi := idxS l k hlt
      have HF := Lib.hid (ref6_digit l[k] W)
      have HT := Lib.hid (all_step isDig hlt)
      cases hp : isDig l[k] with
      | true =>
        rw [hp] at HF
        have Hp := Lib.hid hp
        clear hp
        generalize ((l[k]).toNat : Int) = x at hi HF
        go_wp2_with fail
        refine HF.out.mono ?_
        rintro e w1 ⟨rfl, rfl⟩
        go_wp2_with fail
        go_round
        case rel => exact ⟨k + 1, by omega, by go_num, Lib.hid (by rw [HT.out, HA.out, Hp.out]; rfl)⟩
        case measure => simp [intOf]; omega
      | false =>
        rw [hp] at HF
        have HN := Lib.hid (all_no isDig hlt hp)
        clear hp
        generalize ((l[k]).toNat : Int) = x at hi HF
        go_wp2_with fail
        refine HF.out.mono ?_
        rintro e w1 ⟨rfl, rfl⟩
        go_wp2_with fail
        go_ret
        exact ⟨by rw [HN.out]; rfl, rfl⟩
    · obtain rfl : k = l.length := by omega
      have HAll := Lib.hid (by have := HA.out; rwa [List.take_length] at this : l.all isDig = true)
      go_wp2_with fail
      go_ret
      exact ⟨by rw [HAll.out]; rfl, rfl⟩

set_option maxRecDepth 100000 in
theorem ref9_variant (l : List UInt8) (hl : l.length ≤ 1000000) (W : World) : Calls Tryd.prog 49 #[.string (S l)] W fun e w' => e = .returned (.bool (variantR l)) ∧ W = w' := by
  have hz := S_size l
  have HA := Lib.hid (ref9_all_yes l hl W)
  have HD := Lib.hid (ref6_digit (l.headD 0) W)
  unfold variantR
  cases ha : l.all isLD with
  | false =>
    rw [ha] at HA
    clear ha
    go_enter Tryd.func49, Tryd.ntmps49
    go_wp2_with fail
    refine HA.out.mono ?_
    rintro e w1 ⟨rfl, rfl⟩
    go_wp2
    go_ret
    exact ⟨rfl, rfl⟩
  | true =>
    rw [ha] at HA
    clear ha
    rw [Bool.true_and]
    by_cases h5 : 5 ≤ l.length
    · have h5' : (5 : Int) ≤ (l.length : Int) := by omega
      have h4 : ((l.length : Int) == 4) = false := by rw [beq_eq_false_iff_ne]; omega
      by_cases h8 : l.length ≤ 8
      · have h8' : (l.length : Int) ≤ 8 := by omega
        have HE : Hid ((decide (5 ≤ l.length) && decide (l.length ≤ 8) || decide (l.length = 4) && isDig (l.headD 0)) = true) := Lib.hid (by rw [decide_eq_true h5, decide_eq_true h8]; rfl)
        rw [HE.out]
        clear h5 h8
        go_enter Tryd.func49, Tryd.ntmps49
        go_wp2_with fail
        refine HA.out.mono ?_
        rintro e w1 ⟨rfl, rfl⟩
        go_wp2
        go_ret
        exact ⟨rfl, rfl⟩
      · have h8' : decide ((l.length : Int) ≤ 8) = false := decide_eq_false (by omega)
        have HE : Hid ((decide (5 ≤ l.length) && decide (l.length ≤ 8) || decide (l.length = 4) && isDig (l.headD 0)) = false) := Lib.hid (by rw [decide_eq_false h8, decide_eq_false (by omega : ¬ l.length = 4)]; simp)
        rw [HE.out]
        clear h5 h8
        go_enter Tryd.func49, Tryd.ntmps49
        go_wp2_with fail
        refine HA.out.mono ?_
        rintro e w1 ⟨rfl, rfl⟩
        go_wp2
        go_ret
        exact ⟨rfl, rfl⟩
    · have h5' : ¬ (5 : Int) ≤ (l.length : Int) := by omega
      by_cases h4 : l.length = 4
      · have h4' : ((l.length : Int) == 4) = true := by rw [h4]; rfl
        have hne : l ≠ [] := fun e => by rw [e] at h4; simp at h4
        have hx := run_head l hne
        obtain ⟨c, hc⟩ : ∃ c, l.headD 0 = c := ⟨_, rfl⟩
        have HE : Hid ((decide (5 ≤ l.length) && decide (l.length ≤ 8) || decide (l.length = 4) && isDig (l.headD 0)) = isDig (l.headD 0)) := Lib.hid (by rw [decide_eq_false h5, decide_eq_true h4]; simp)
        rw [HE.out]
        rw [hc] at hx HD ⊢
        have hb := c.toNat_lt
        obtain ⟨x, hxx⟩ : ∃ x : Int, (c.toNat : Int) = x := ⟨_, rfl⟩
        rw [hxx] at hx HD
        clear h5 h4 hne hc HE hxx hb
        go_enter Tryd.func49, Tryd.ntmps49
        go_wp2_with fail
        refine HA.out.mono ?_
        rintro e w1 ⟨rfl, rfl⟩
        go_wp2_with fail
        refine HD.out.mono ?_
        rintro e w1 ⟨rfl, rfl⟩
        go_wp2
        go_ret
        exact ⟨rfl, rfl⟩
      · have h4' : ((l.length : Int) == 4) = false := by rw [beq_eq_false_iff_ne]; omega
        have HE : Hid ((decide (5 ≤ l.length) && decide (l.length ≤ 8) || decide (l.length = 4) && isDig (l.headD 0)) = false) := Lib.hid (by rw [decide_eq_false h5, decide_eq_false h4]; rfl)
        rw [HE.out]
        clear h5 h4
        go_enter Tryd.func49, Tryd.ntmps49
        go_wp2_with fail
        refine HA.out.mono ?_
        rintro e w1 ⟨rfl, rfl⟩
        go_wp2
        go_ret
        exact ⟨rfl, rfl⟩

/-! ### Split -/
def glue (cur : List UInt8) : List (List UInt8) → List (List UInt8)
  | [] => [cur]
  | p :: ps => (cur ++ p) :: ps
def curL (l : List UInt8) (a i : Nat) : List UInt8 := (l.drop a).take (i - a)
theorem splitR_cons_eq (b : UInt8) (l : List UInt8) : splitR (b :: l) = if isHy b then [] :: splitR l else glue [b] (splitR l) := by
  conv => lhs; unfold splitR
  cases splitR l <;> rfl
theorem glue_glue (a b : List UInt8) (ps : List (List UInt8)) (h : ps ≠ []) : glue a (glue b ps) = glue (a ++ b) ps := by
  cases ps with
  | nil => exact absurd rfl h
  | cons p ps => simp [glue]
theorem glue_nil (ps : List (List UInt8)) (h : ps ≠ []) : glue [] ps = ps := by
  cases ps with
  | nil => exact absurd rfl h
  | cons p ps => rfl
theorem curL_step {l : List UInt8} {a i : Nat} (ha : a ≤ i) (hi : i < l.length) : curL l a (i + 1) = curL l a i ++ [l[i]] := by
  unfold curL
  rw [show i + 1 - a = (i - a) + 1 from by omega, List.take_succ_eq_append_getElem (by rw [List.length_drop]; omega), List.getElem_drop]
  congr 3
  omega
theorem curL_self (l : List UInt8) (a : Nat) : curL l a a = [] := by unfold curL; rw [Nat.sub_self]; rfl
/-- What Split has at the head of a round. -/
def SplI (l : List UInt8) (out : List (List UInt8)) (a i : Nat) : Prop := splitR l = out ++ glue (curL l a i) (splitR (l.drop i))
theorem SplI.start (l : List UInt8) : SplI l [] 0 0 := by
  unfold SplI
  rw [curL_self, List.drop_zero, glue_nil _ (splitR_ne l)]
  rfl
theorem SplI.end_ {l : List UInt8} {out : List (List UInt8)} {a : Nat} (h : SplI l out a l.length) : splitR l = out ++ [curL l a l.length] := by
  unfold SplI at h
  rw [List.drop_length] at h
  rw [h]
  simp [splitR, glue]
theorem SplI.cut {l : List UInt8} {out : List (List UInt8)} {a i : Nat} (h : SplI l out a i) (hi : i < l.length) (hc : isHy l[i] = true) : SplI l (out ++ [curL l a i]) (i + 1) (i + 1) := by
  unfold SplI at h ⊢
  rw [h, List.drop_eq_getElem_cons hi, splitR_cons_eq, hc, if_pos rfl, curL_self, glue_nil _ (splitR_ne _)]
  simp [glue]
theorem SplI.go {l : List UInt8} {out : List (List UInt8)} {a i : Nat} (h : SplI l out a i) (ha : a ≤ i) (hi : i < l.length) (hc : isHy l[i] = false) : SplI l out a (i + 1) := by
  unfold SplI at h ⊢
  rw [h, List.drop_eq_getElem_cons hi, splitR_cons_eq, hc, if_neg (by decide), glue_glue _ _ _ (splitR_ne _), curL_step ha hi]
end Go.Proofs.YtaccjifhgohfpaaDoor
