import Derived.Test.YtaccjifhgohfpaaDoorGood
import Derived.StillTailTactics
/- The contracts of utf.Bytes, utf.At and the law's same. -/
namespace Go.Proofs.YtaccjifhgohfpaaDoor
open Go.RowKit Go.Shelf Go.Proofs.YtaccjifhgohfpaaDoorW.PrintWords Go.Proofs.YtaccjifhgohfpaaDoorW.PrintMore

/-- A row of numbers that is read. -/
def RdN (k : IntKind) (w : World) (v : Value) (xs : List Int) : Prop := ∃ A c, v = .slice A xs.length c ∧ xs.length ≤ c ∧ ReadsInt w k A xs.length xs
theorem RdN.below {k : IntKind} {w w1 : World} {v : Value} {xs : List Int} (h : RdN k w v xs) (hb : Below w.heap.size w w1) : RdN k w1 v xs := by
  obtain ⟨A, c, rfl, hc, hr⟩ := h
  exact ⟨A, c, rfl, hc, ReadsInt.below hr hb⟩
theorem OwnN.rd {k : IntKind} {e : TypeId} {w : World} {base : Nat} {v : Value} {xs : List Int} (h : OwnN k e w base v xs) : RdN k w v xs := by
  obtain ⟨A, c, rfl, hr⟩ := own_reads (k := k) h
  exact ⟨A, c, rfl, own_le h, hr⟩
def I32 (xs : List Int) : Prop := ∀ x ∈ xs, -2147483648 ≤ x ∧ x < 2147483648

theorem append_rune (base : Nat) (v : Value) (xs : List Int) (r : Int) (h0 : -2147483648 ≤ r ∧ r < 2147483648) (w : World) (ho : OwnB w base v xs) (hb : base ≤ w.heap.size) (hl : xs.length + 4 ≤ 140737488355328) :
    Calls Tryd.prog 34 #[v, .int .i32 r] w fun e w' => ∃ v', e = .returned v' ∧ OwnB w' base v' (xs ++ enc r) ∧ Below base w w' := by
  have key := Any.utf8_AppendRune_plain TrydlayApp info8 base v xs.length (nums .u8 xs) r h0.1 (by omega) w ho hl hb
  refine Calls.mono key ?_
  rintro e w' ⟨v', rfl, ho', o, hg⟩
  refine ⟨v', rfl, ?_, ((Below.refl base w).alloc hb o).grown hg (by simp; omega) (fun k e => (ho.lt k e).1)⟩
  unfold OwnB
  rw [List.length_append, nums_append]
  have h1 : Lib.runeCells r = nums .u8 (enc r) := rfl
  rw [h1] at ho'
  have h2 : (nums .u8 (enc r)).length = (enc r).length := by simp [nums]
  rw [h2] at ho'
  exact ho'

theorem encs'_take {xs : List Int} {k : Nat} (h : k < xs.length) : encs' (xs.take (k + 1)) = encs' (xs.take k) ++ enc (xs.getD k 0) := by
  rw [take_snoc_getD h, encs'_append]
  simp [encs']
theorem encs'_len (xs : List Int) : (encs' xs).length ≤ 4 * xs.length := by
  induction xs with
  | nil => simp [encs']
  | cons x xs ih =>
    rw [encs'_cons, List.length_append, List.length_cons]
    have := (enc_len x).2
    omega

set_option maxHeartbeats 1000000 in
theorem utf_bytes (v : Value) (xs : List Int) (w : World) (hr : RdN .i32 w v xs) (hi : I32 xs) (hlen : xs.length ≤ 1000000000000) :
    Calls Tryd.prog 19 #[v] w fun e w' => ∃ u, e = .returned u ∧ OwnB w' w.heap.size u (encs' xs) ∧ Below w.heap.size w w' := by
  obtain ⟨A, c, rfl, hc, hrd⟩ := hr
  have hml := hrd.2.1
  have Hr := Lib.hid hrd.2.2
  clear hrd
  go_enter Tryd.func19, Tryd.ntmps19
  go_wp2_with fail
  go_loopw [3, 8] (fun u i wr => ∃ k : Nat, k ≤ xs.length ∧ i = .int .i64 k ∧ OwnB wr w.heap.size u (encs' (xs.take k)) ∧ Below w.heap.size w wr) (fun _ i _ => xs.length - (intOf i).toNat)
  case atStart => exact ⟨0, Nat.zero_le _, rfl, OwnB.nil _ _, Below.refl _ _⟩
  case round =>
    obtain ⟨k, hk, rfl, ho, hB⟩ := hrel
    have HB := Lib.hid hB
    have HO := Lib.hid ho
    clear hB ho
    by_cases hlt : k < xs.length
    · obtain ⟨ad, rfl, hcell⟩ := Hr.out (by omega)
      have hc1 := pw_cell_below HB.out (hcell k hlt)
      have HT := Lib.hid (encs'_take hlt)
      have hx : -2147483648 ≤ xs.getD k 0 ∧ xs.getD k 0 < 2147483648 := by
        rw [List.getD_eq_getElem?_getD, List.getElem?_eq_getElem hlt]
        exact hi _ (List.getElem_mem hlt)
      have hl := encs'_len (xs.take k)
      rw [List.length_take] at hl
      have Hl : Hid ((encs' (xs.take k)).length + 4 ≤ 140737488355328) := Lib.hid (by omega)
      obtain ⟨r, hr⟩ : ∃ r, xs.getD k 0 = r := ⟨_, rfl⟩
      rw [hr] at hc1 HT hx
      clear hcell hl hr
      go_wp2_with fail
      refine (append_rune w.heap.size _ _ r hx wr HO.out HB.out.size Hl.out).mono ?_
      rintro e w2 ⟨v2, rfl, ho2, hb2⟩
      go_wp2
      go_roundw
      case rel => exact ⟨k + 1, by omega, by go_num, by rw [HT.out]; exact ho2, HB.out.trans hb2⟩
      case measure => simp [intOf]; omega
    · have hkn : k = xs.length := by omega
      subst hkn
      go_wp2
      go_ret
      refine ⟨_, rfl, ?_, HB.out⟩
      have := HO.out
      rwa [List.take_length] at this

/-- What utf.At answers. -/
def atV (xs : List Int) (size i : Int) : Int := if i < 0 ∨ (xs.length : Int) < i then -1 else if i = xs.length then size else xs.getD i.toNat 0
theorem utf_at (v : Value) (xs : List Int) (size i : Int) (w : World) (hr : RdN .i64 w v xs) :
    Calls Tryd.prog 18 #[v, .int .i64 size, .int .i64 i] w fun e w' => e = .returned (.int .i64 (atV xs size i)) ∧ w = w' := by
  obtain ⟨A, c, rfl, hc, hrd⟩ := hr
  have hml := hrd.2.1
  have Hr := Lib.hid hrd.2.2
  clear hrd
  unfold atV
  by_cases h1 : i < 0
  · rw [if_pos (.inl h1)]
    go_enter Tryd.func18, Tryd.ntmps18
    go_wp2
    go_ret
    exact ⟨rfl, rfl⟩
  by_cases h2 : (xs.length : Int) < i
  · rw [if_pos (.inr h2)]
    go_enter Tryd.func18, Tryd.ntmps18
    go_wp2
    go_ret
    exact ⟨rfl, rfl⟩
  rw [if_neg (by omega)]
  by_cases h3 : i = xs.length
  · subst h3
    rw [if_pos rfl]
    go_enter Tryd.func18, Tryd.ntmps18
    go_wp2
    go_ret
    exact ⟨rfl, rfl⟩
  · rw [if_neg h3]
    obtain ⟨k, rfl⟩ := Int.eq_ofNat_of_zero_le (show 0 ≤ i by omega)
    have hlt : k < xs.length := by omega
    have h3' : ((k : Int) == (xs.length : Int)) = false := by rw [beq_eq_false_iff_ne]; omega
    obtain ⟨ad, rfl, hcell⟩ := Hr.out (by omega)
    have hc1 := hcell k hlt
    rw [Int.toNat_natCast]
    have hi1 : ∀ W, (Instr.indexAt 25 (.slice (some ad) xs.length c) (.int .i64 (k : Int))).run Tryd.prog W = .ok (.pointer (some (ad.add k))) W := fun W => by
      have h2 : 0 ≤ (k : Int) ∧ (k : Int) < (xs.length : Int) := ⟨by omega, by omega⟩
      go_simp
    generalize xs.getD k 0 = y at hc1 ⊢
    clear hcell h3
    go_enter Tryd.func18, Tryd.ntmps18
    go_wp2
    go_ret
    exact ⟨rfl, rfl⟩

set_option maxHeartbeats 1000000 in
theorem same_is (v u : Value) (xs ys : List Int) (w : World) (hr : RdN .i32 w v xs) (hr2 : RdN .i32 w u ys) :
    Calls Tryd.prog 16 #[v, u] w fun e w' => e = .returned (.bool (decide (xs = ys))) ∧ Below w.heap.size w w' := by
  obtain ⟨A, c, rfl, hc, hrd⟩ := hr
  obtain ⟨A2, c2, rfl, hc2, hrd2⟩ := hr2
  have hml := hrd.2.1
  have hml2 := hrd2.2.1
  have Hr := Lib.hid hrd.2.2
  have Hr2 := Lib.hid hrd2.2.2
  clear hrd hrd2
  by_cases hl : xs.length = ys.length
  · go_enter Tryd.func16, Tryd.ntmps16
    go_wp2_with fail
    go_loopw [5] (fun i wr => ∃ k : Nat, k ≤ xs.length ∧ i = .int .i64 (k : Int) ∧ Below w.heap.size w wr ∧ ∀ j, j < k → xs.getD j 0 = ys.getD j 0) (fun i _ => xs.length - (intOf i).toNat)
    case atStart => exact ⟨0, Nat.zero_le _, rfl, Below.refl _ _, fun j hj => absurd hj (by omega)⟩
    case round =>
      obtain ⟨k, hk, rfl, hB, hE⟩ := hrel
      have HB := Lib.hid hB
      have HE := Lib.hid hE
      clear hB hE
      by_cases hlt : k < xs.length
      · have hlt2 : k < ys.length := by omega
        obtain ⟨ad, rfl, hcell⟩ := Hr.out (by omega)
        obtain ⟨ad2, rfl, hcell2⟩ := Hr2.out (by omega)
        have hx1 := pw_cell_below HB.out (hcell k hlt)
        have hy1 := pw_cell_below HB.out (hcell2 k hlt2)
        obtain ⟨x, hx⟩ : ∃ x, xs.getD k 0 = x := ⟨_, rfl⟩
        obtain ⟨y, hy⟩ : ∃ y, ys.getD k 0 = y := ⟨_, rfl⟩
        rw [hx] at hx1
        rw [hy] at hy1
        have HX := Lib.hid hx
        have HY := Lib.hid hy
        have hi1 : ∀ W, (Instr.indexAt 23 (.slice (some ad) xs.length c) (.int .i64 (k : Int))).run Tryd.prog W = .ok (.pointer (some (ad.add k))) W := fun W => by
          have h2 : 0 ≤ (k : Int) ∧ (k : Int) < (xs.length : Int) := ⟨by omega, by omega⟩
          go_simp
        have hi2 : ∀ W, (Instr.indexAt 23 (.slice (some ad2) ys.length c2) (.int .i64 (k : Int))).run Tryd.prog W = .ok (.pointer (some (ad2.add k))) W := fun W => by
          have h2 : 0 ≤ (k : Int) ∧ (k : Int) < (ys.length : Int) := ⟨by omega, by omega⟩
          go_simp
        clear hcell hcell2 hx hy
        by_cases hxy : x = y
        · have hne : (x != y) = false := by rw [hxy]; simp
          have Hxy := Lib.hid hxy
          clear hxy
          go_wp2_with fail
          go_quiet (fail)
          all_goals go_wp2
          go_roundw
          case rel => exact ⟨k + 1, by omega, by go_num, pw_below_drewN HB.out _, fun j hj => by
            rcases Nat.lt_or_ge j k with h | h
            · exact HE.out j h
            · rw [show j = k from by omega, HX.out, HY.out, Hxy.out]⟩
          case measure => simp [intOf]; omega
        · have hne : (x != y) = true := by rw [bne_iff_ne]; exact hxy
          have Hxy := Lib.hid hxy
          clear hxy
          go_wp2_with fail
          go_quiet (fail)
          all_goals go_wp2
          go_ret
          have hd : decide (xs = ys) = false := decide_eq_false (fun e => Hxy.out (by rw [← HX.out, ← HY.out, e]))
          refine ⟨?_, pw_below_drewN HB.out _⟩
          rw [hd]
          rfl
      · have hkn : k = xs.length := by omega
        subst hkn
        have heq : xs = ys := List.ext_getElem hl (fun j h1 h2 => by
          have := HE.out j h1
          rwa [List.getD_eq_getElem?_getD, List.getD_eq_getElem?_getD, List.getElem?_eq_getElem h1, List.getElem?_eq_getElem h2] at this)
        have Heq := Lib.hid heq
        clear heq
        go_wp2
        go_ret
        refine ⟨?_, HB.out⟩
        rw [decide_eq_true Heq.out]
        rfl
  · have hne : ((xs.length : Int) != (ys.length : Int)) = true := by rw [bne_iff_ne]; omega
    have hd : decide (xs = ys) = false := decide_eq_false (fun e => hl (by rw [e]))
    go_enter Tryd.func16, Tryd.ntmps16
    go_wp2
    go_ret
    refine ⟨?_, Below.refl _ _⟩
    rw [hd]
    rfl
end Go.Proofs.YtaccjifhgohfpaaDoor
