import Derived.Test.YteebojnabifccaaKnown
import Derived.Test.YteebojnabifccaaCrcMath2
import Derived.Test.YteebojnabifccaaRd
import Derived.Deep.RegionHeld3
/- CrcRows: numbers and texts one behind the other are read one behind the other. -/
namespace Go.Proofs.Yteebojnabifccaa
open Go.RowKit Go.Proofs.YteebojnabifccaaW.PrintWords Go.Proofs.YteebojnabifccaaW.PrintMore

def rowsB (n : List Int) (s : List ByteArray) : Nat → List Int
  | 0 => []
  | i + 1 => rowsB n s i ++ (le (n.getD i 0) (i % 9) ++ txt (s.getD i ByteArray.empty))
theorem rowsB_length (n : List Int) (s : List ByteArray) (hs : ∀ i, i < n.length → (s.getD i ByteArray.empty).size ≤ 100) : ∀ k, k ≤ n.length → (rowsB n s k).length ≤ 111 * k := by
  intro k
  induction k with
  | zero => intro _; simp [rowsB]
  | succ k ih =>
    intro hk
    have h1 := ih (by omega)
    have h2 := hs k (by omega)
    simp only [rowsB, List.length_append, le_length, txt_length]
    omega

def rowsT (n : List Int) (s : List ByteArray) : Nat → Nat → List Int
  | 0, _ => []
  | c + 1, i => (le (n.getD i 0) (i % 9) ++ txt (s.getD i ByteArray.empty)) ++ rowsT n s c (i + 1)
theorem rowsT_snoc (n : List Int) (s : List ByteArray) : ∀ c i, rowsT n s (c + 1) i = rowsT n s c i ++ (le (n.getD (i + c) 0) ((i + c) % 9) ++ txt (s.getD (i + c) ByteArray.empty)) := by
  intro c
  induction c with
  | zero => intro i; simp [rowsT]
  | succ c ih =>
    intro i
    have h := ih (i + 1)
    rw [rowsT, h, show i + 1 + c = i + (c + 1) from by omega]
    conv => rhs; rw [rowsT]
    simp only [List.append_assoc]
theorem rowsB_eq (n : List Int) (s : List ByteArray) : ∀ k, rowsB n s k = rowsT n s k 0 := by
  intro k
  induction k with
  | zero => rfl
  | succ k ih => rw [rowsT_snoc, rowsB, ih, Nat.zero_add]
theorem rowsT_by (n : List Int) (s : List ByteArray) : ∀ c i, By (rowsT n s c i) := by
  intro c
  induction c with
  | zero => intro i; exact By.nil
  | succ c ih => intro i; exact (((le_by _ _).append (txt_by _)).append (ih _))

theorem mask_eq (x : Int) (j : Nat) (hj : j < 8) (h0 : 0 ≤ x) (h1 : x < 18446744073709551616) :
    bits .and .u64 x (IntKind.u64.wrap (IntKind.u64.wrap (2 ^ (8 * j)) - 1)) = x % 2 ^ (8 * j) := by
  have hpos : (0 : Int) < 2 ^ (8 * j) := Int.pow_pos (by decide)
  have hle : (2 : Int) ^ (8 * j) ≤ 2 ^ 56 := by
    have h := Nat.pow_le_pow_right (n := 2) (by decide) (show 8 * j ≤ 56 from by omega)
    exact_mod_cast h
  rw [wrap64u (2 ^ (8 * j)) (by omega) (by omega), wrap64u (2 ^ (8 * j) - 1) (by omega) (by omega)]
  exact bits_mask .u64 64 (by decide) wrap64u (8 * j) (by omega) x h0 (by simpa using h1)

set_option maxHeartbeats 400000 in
set_option maxRecDepth 100000 in
theorem crcRows_walk (v : Value) (n : List Int) (v2 : Value) (s : List ByteArray) (w : World) (hr : RdU w v n) (hn : ∀ x ∈ n, 0 ≤ x ∧ x < 18446744073709551616) (hr2 : RdS w v2 s) :
    Calls Try.prog 7 #[v, v2] w fun e w' => e = .returned (.bool true) ∧ Below w.heap.size w w' := by
  obtain ⟨A, c, rfl, hc, hrd⟩ := hr
  obtain ⟨A2, c2, rfl, hc2, hrd2⟩ := hr2
  have hml := hrd.2.1
  have hml2 := hrd2.2.1
  have Hr := Lib.hid hrd.2.2
  have Hr2 := Lib.hid hrd2.2.2
  clear hrd hrd2
  by_cases h20 : 20 < n.length
  · go_enter Try.func7, Try.ntmps7
    go_wp2_with (go_at_call 14; refine (known1 _).mono ?_; rintro e w1 ⟨rfl, hb1⟩)
    go_ret
    exact ⟨rfl, hb1⟩
  by_cases hsn : s.length < n.length
  · go_enter Try.func7, Try.ntmps7
    go_wp2_with (go_at_call 14; refine (known1 _).mono ?_; rintro e w1 ⟨rfl, hb1⟩)
    go_ret
    exact ⟨rfl, hb1⟩
  go_enter Try.func7, Try.ntmps7
  go_wp2_with (go_at_call 14; refine (known1 _).mono ?_; rintro e w1 ⟨rfl, hb1⟩)
  go_loopw [5, 6] (fun u i wr => ∃ k : Nat, k ≤ n.length ∧ i = .int .i64 k ∧ OwnB wr w.heap.size u (rowsB n s k) ∧ Below w.heap.size w wr ∧ (∀ i, i < k → (s.getD i ByteArray.empty).size ≤ 100) ∧ (rowsB n s k).length ≤ 111 * k) (fun _ i _ => n.length - (intOf i).toNat)
  case atStart => exact ⟨0, Nat.zero_le _, rfl, OwnB.nil _ _, hb1, fun i h => absurd h (by omega), by simp [rowsB]⟩
  case round =>
    obtain ⟨k, hk, rfl, hown, hB, hss, hlen⟩ := hrel
    have HS := Lib.hid hss
    have HB := Lib.hid hB
    clear hss hb1 hB
    by_cases hlt : k < n.length
    · obtain ⟨ad, rfl, hcn⟩ := Hr.out (by omega)
      obtain ⟨ad2, rfl, hcs⟩ := Hr2.out (by omega)
      have c1 := hcn k hlt
      have c2' := hcs k (by omega)
      have l1 := World.block_lt_of_cell? w _ c1
      have l2 := World.block_lt_of_cell? w _ c2'
      replace c1 := (HB.out.cell l1).trans c1
      replace c2' := (HB.out.cell l2).trans c2'
      clear hcn hcs
      have Hrow : Hid (rowsB n s (k + 1) = rowsB n s k ++ (le (n.getD k 0) (k % 9) ++ txt (s.getD k ByteArray.empty))) := rfl
      generalize hx : n.getD k 0 = x at c1 Hrow
      generalize ht : s.getD k ByteArray.empty = t at c2' Hrow
      have Hx := Lib.hid hx
      have Ht := Lib.hid ht
      clear hx ht
      have hks : (k : Int) < s.length := by omega
      by_cases h100 : 100 < t.size
      · go_wp2
        go_ret
        exact ⟨rfl, HB.out⟩
      · have hne1 : some (ad.add k).block ≠ u5.ownBlock := fun e => by have := own_base hown _ e.symm; omega
        have hne2 : some (ad2.add k).block ≠ u5.ownBlock := fun e => by have := own_base hown _ e.symm; omega
        have Hk9 : Hid ((crcW ((k : Int) % 9)).toNat = k % 9) := (by unfold crcW; split <;> (try split) <;> omega : (crcW ((k : Int) % 9)).toNat = k % 9)
        have Hbase := Lib.hid HB.out.size
        have Hlen := Lib.hid hlen
        clear hlen
        have Hl1 := Lib.hid (show (rowsB n s k).length + 8 ≤ 140737488355328 from by have := Hlen.out; omega)
        have Hl2 := Lib.hid (show (rowsB n s k ++ le x (crcW ((k : Int) % 9)).toNat).length + 65537 ≤ 140737488355328 from by rw [List.length_append, le_length, Hk9.out]; have := Hlen.out; omega)
        have htm : (k : Int).tmod 9 = (k : Int) % 9 := Int.tmod_eq_emod_of_nonneg (by omega)
        go_wp2
        go_region_held3 (fun w' => w'.cell? (ad.add k) = some (.int .u64 x) ∧ w'.cell? (ad2.add k) = some (.string t))
          (first
            | go_keep
            | exact ⟨hg2.cell (hg1.cell c1 hne1) (fun e => by have := own_base ho1 _ e.symm; omega), hg2.cell (hg1.cell c2' hne2) (fun e => by have := own_base ho1 _ e.symm; omega)⟩
            | exact ⟨hg1.cell c1 hne1, hg1.cell c2' hne2⟩)
          ((first
            | (go_at_call 20; refine (crc_put w.heap.size u5 (rowsB n s k) x ((k : Int) % 9) _ (by exact hown) (by exact Hbase.out) Hl1.out).mono ?_; rintro e w1 ⟨v1, rfl, ho1, hg1, hn1⟩)
            | (go_at_call 22; refine (crc_text w.heap.size v1 (rowsB n s k ++ le x (crcW ((k : Int) % 9)).toNat) t (by omega) _ ho1 (Nat.le_trans Hbase.out hg1.size) Hl2.out).mono ?_; rintro e w2 ⟨v2, rfl, ho2, hg2, hn2⟩)))
        all_goals go_wp2
        go_roundw
        case rel =>
          refine ⟨k + 1, by omega, by go_num, ?_, ((HB.out.drew.grown hg1 Hbase.out (own_base hown)).grown hg2 (Nat.le_trans Hbase.out hg1.size) (own_base ho1)), ?_, ?_⟩
          · rw [Hrow.out]
            rw [Hk9.out, List.append_assoc] at ho2
            exact ho2
          · intro i hi
            rcases Nat.lt_or_ge i k with h | h
            · exact HS.out i h
            · rw [show i = k from by omega, Ht.out]; omega
          · rw [Hrow.out]
            simp only [List.length_append, le_length, txt_length]
            have := Hlen.out
            omega
        case measure => simp [intOf]; omega
    · have hkn : k = n.length := by omega
      subst hkn
      rw [rowsB_eq] at hown
      have hrd0 := hown.rd
      clear hown
      go_wp2
      go_loopw [5, 7] (fun u i wx => ∃ k : Nat, k ≤ n.length ∧ i = .int .i64 k ∧ RdB wx u (rowsT n s (n.length - k) k) ∧ Below w.heap.size w wx) (fun _ i _ => n.length - (intOf i).toNat)
      case atStart => exact ⟨0, Nat.zero_le _, rfl, hrd0, HB.out⟩
      case round =>
        clear hrd0 HB hlt hlen hk
        obtain ⟨k, hk, rfl, hrd, hB⟩ := hrel
        have HB := Lib.hid hB
        by_cases hlt : k < n.length
        · obtain ⟨ad, rfl, hcn⟩ := Hr.out (by omega)
          obtain ⟨ad2, rfl, hcs⟩ := Hr2.out (by omega)
          have c1 := hcn k hlt
          have c2' := hcs k (by omega)
          have l1 := World.block_lt_of_cell? w _ c1
          have l2 := World.block_lt_of_cell? w _ c2'
          have d1 := (HB.out.cell l1).trans c1
          have d2 := (HB.out.cell l2).trans c2'
          have hxb := hn (n.getD k 0) (by rw [List.getD_eq_getElem?_getD, List.getElem?_eq_getElem hlt]; exact List.getElem_mem hlt)
          have ht100 := HS.out k hlt
          have hrow : rowsT n s (n.length - k) k = (le (n.getD k 0) (k % 9) ++ txt (s.getD k ByteArray.empty)) ++ rowsT n s (n.length - (k + 1)) (k + 1) := by
            rw [show n.length - k = (n.length - (k + 1)) + 1 from by omega]; rfl
          have hrby := rowsT_by n s (n.length - (k + 1)) (k + 1)
          rw [hrow] at hrd
          clear hcn hcs hrow
          generalize n.getD k 0 = x at c1 d1 hrd hxb
          generalize s.getD k ByteArray.empty = t at c2' d2 hrd ht100
          obtain ⟨rest, hrest⟩ : ∃ rest, rest = rowsT n s (n.length - (k + 1)) (k + 1) := ⟨_, rfl⟩
          rw [← hrest] at hrd hrby
          rw [List.append_assoc] at hrd
          have Hrest := Lib.hid hrest
          clear hrest
          have hk9 : ((k : Int) % 9).toNat = k % 9 := by omega
          have hg := crc_get u5 (le x (k % 9) ++ (txt t ++ rest)) ((k : Int) % 9) wr hrd ((le_by _ _).append ((txt_by _).append hrby))
          have hgn := getN_le x ((k : Int) % 9) (by omega) (txt t ++ rest)
          rw [hk9] at hgn
          unfold GetP at hg
          rw [hgn] at hg
          have hgt := getT_txt t (by omega) rest 100
          rw [if_neg (by omega)] at hgt
          have hg2 := fun (v : Value) (w5 : World) (h : RdB w5 v (txt t ++ rest)) => crc_getText v (txt t ++ rest) 100 w5 h ((txt_by _).append hrby)
          unfold GetTP at hg2
          rw [hgt] at hg2
          have Hg := Lib.hid hg
          have Hg2 := Lib.hid hg2
          have Hs1 := strOfNums_bytesOf t
          have hks : (k : Int) < s.length := by omega
          obtain ⟨hx0, hx1⟩ := hxb
          clear hg hg2 hgt hgn hrd hrby hk9 hB
          by_cases h8 : (k : Int) % 9 < 8
          all_goals
            first
              | (have hmask := mask_eq x (k % 9) (by omega) hx0 hx1)
              | (have hmask : x % 2 ^ (8 * (k % 9)) = x := by rw [show k % 9 = 8 from by omega]; exact Int.emod_eq_of_lt hx0 hx1)
            go_wp2_with fail
            refine Hg.out.mono ?_
            rintro e w5 ⟨u6, rfl, hu6, hb5⟩
            have HB5 := Lib.hid (HB.out.trans (hb5.mono HB.out.size))
            have Hu6 := Lib.hid hu6
            clear Hg hb5 hu6
            go_wp2_with fail
            refine (Hg2.out _ _ Hu6.out).mono ?_
            rintro e w6 ⟨u7, rfl, hu7, hb6⟩
            have HB6 := Lib.hid (HB5.out.trans (hb6.mono HB5.out.size))
            have d3 := (HB6.out.cell l2).trans c2'
            have Hu7 := Lib.hid hu7
            clear Hg2 hb6 hu7 HB5
            go_wp2
            go_roundw
            case rel => exact ⟨k + 1, by omega, by go_num, by rw [← Hrest.out]; exact Hu7.out, HB6.out⟩
            case measure => simp [intOf]; omega
        · have hk2 : n.length - k = 0 := by omega
          rw [hk2] at hrd
          obtain ⟨A3, c3, rfl, hc3, hr3⟩ := hrd
          clear hk2 hr3
          go_wp2
          go_ret
          exact ⟨rfl, HB.out⟩
end Go.Proofs.Yteebojnabifccaa
