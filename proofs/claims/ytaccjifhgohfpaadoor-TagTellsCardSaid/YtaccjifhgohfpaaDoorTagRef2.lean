import Derived.Test.YtaccjifhgohfpaaDoorTagRef1
/- The reference's Split. -/
namespace Go.Proofs.YtaccjifhgohfpaaDoor
open Go.RowKit Go.Shelf Go.Proofs.YtaccjifhgohfpaaDoorW.PrintWords Go.Proofs.YtaccjifhgohfpaaDoorW.PrintMore

def SplJ (l : List UInt8) (out : List (List UInt8)) (a k : Nat) : Prop := (k ≤ l.length ∧ SplI l out a k) ∨ (k = l.length + 1 ∧ splitR l = out)
theorem run_mid (l : List UInt8) (a i : Nat) (ha : a ≤ i) (hi : i ≤ l.length) (W : World) : (Instr.slice 9 (.string (S l)) (some (.int .i64 (a : Int))) (some (.int .i64 (i : Int))) none).run Tryd.prog W = .ok (.string (S (curL l a i))) W := by
  have hz := S_size l
  have h2 : (i : Int) ≤ (l.length : Int) := by omega
  have h3 : (a : Int) ≤ (i : Int) := by omega
  have he : (S l).extract a i = S (curL l a i) := by
    have h : ((S l).extract a i).data.toList = curL l a i := by
      rw [ByteArray.data_extract, Array.toList_extract]
      show l.extract a i = _
      rw [List.extract_eq_take_drop]
      rfl
    exact congrArg S h
  go_simp
theorem splitR_count (l : List UInt8) : (splitR l).length ≤ l.length + 1 := by
  have h1 := split_count (normL l)
  rw [splitR_small, List.length_map, normL_length] at h1
  exact h1

set_option maxRecDepth 100000 in
set_option maxHeartbeats 4000000 in
theorem ref9_split (l : List UInt8) (hl : l.length ≤ 1000000) (W : World) : Calls Tryd.prog 29 #[.string (S l)] W fun e w' => ∃ v, e = .returned v ∧ OwnS w' W.heap.size v (splitR l) ∧ Below W.heap.size W w' := by
  obtain ⟨i0, hi, hz0, hz1, hz2⟩ := info_parts info9
  have hz := S_size l
  go_enter Tryd.func29, Tryd.ntmps29
  go_wp2_with fail
  go_loopw [3, 4, 5] (fun u f i wr => ∃ (out : List (List UInt8)) (a k : Nat), (a ≤ k ∧ k ≤ l.length + 1 ∧ out.length ≤ k) ∧ f = .int .i64 (a : Int) ∧ i = .int .i64 (k : Int) ∧ OwnS wr W.heap.size u out ∧ SplJ l out a k ∧ Below W.heap.size W wr) (fun _ _ i _ => l.length + 1 - (intOf i).toNat)
  case atStart => exact ⟨[], 0, 0, ⟨Nat.le_refl _, by omega, Nat.le_refl _⟩, rfl, rfl, World.ownsRow_nil _ _ _ _, .inl ⟨Nat.zero_le _, SplI.start l⟩, Below.refl _ _⟩
  case round =>
    obtain ⟨out, a, k, ⟨hak, hk, hok⟩, rfl, rfl, ho, hJ, hB⟩ := hrel
    have HB := Lib.hid hB
    have HO := Lib.hid ho
    clear hB ho
    by_cases hle : k ≤ l.length
    · have hI : SplI l out a k := by rcases hJ with h | h; · exact h.2
                                     · omega
      have hle' : (k : Int) ≤ (l.length : Int) := by omega
      have hcut := run_mid l a k hak hle
      obtain ⟨cur, hcu⟩ : ∃ cur, curL l a k = cur := ⟨_, rfl⟩
      rw [hcu] at hcut
      by_cases hend : k = l.length
      · subst hend
        have HE := Lib.hid hI.end_
        rw [hcu] at HE
        clear hI hJ hcu
        go_wp2_with (at_builtin; refine wpList_append_own _ rfl _ _ 45 rfl W.heap.size 9 i0 (.string ByteArray.empty) 1 16 Tryd.underlying45 hi hz0 hz1 hz2 rfl (by decide) _ _ _ rfl (World.ownsRow.alloc HO.out _) ⟨_, 0, none⟩ 1 1 [.string (S cur)] rfl rfl (cell_one_new _ _ _) (by simp [Value.oneCell']) (by have : maxLen = 9223372036854775807 := rfl; omega) (by omega) (by have := HB.out.size; simp; omega) ?_; intro v' z1 hown' hgrow _; have HW := Lib.hid hown'; have HG := Lib.hid hgrow; clear hown' hgrow)
        go_roundw
        case rel =>
          refine ⟨out ++ [cur], l.length + 1, l.length + 1, ⟨Nat.le_refl _, Nat.le_refl _, by simp; omega⟩, by go_num, by go_num, ?_, .inr ⟨rfl, HE.out⟩, ?_⟩
          · show World.ownsRow _ _ _ _ _ _ _
            rw [List.length_append, List.length_singleton, List.map_append]
            exact HW.out
          · exact (HB.out.alloc HB.out.size _).grown HG.out (by have := HB.out.size; simp; omega) (fun k e => (World.ownsRow.lt HO.out k e).1)
        case measure => first | (simp [intOf]; done) | (simp [intOf]; omega)
      · have hlt : k < l.length := by omega
        have hne : ((k : Int) == (l.length : Int)) = false := by rw [beq_eq_false_iff_ne]; omega
        have hx := idxS l k hlt
        have hcs : isHy l[k] = true ∨ isHy l[k] = false := by cases isHy l[k] <;> simp
        rcases hcs with hc | hc
        · have HE := Lib.hid (hI.cut hlt hc)
          rw [hcu] at HE
          have hor : l[k] = 45 ∨ l[k] = 95 := by
            unfold isHy at hc
            simpa using hc
          rcases hor with h45 | h95
          · rw [h45, show ((45 : UInt8).toNat : Int) = 45 from rfl] at hx
            clear hI hJ hcu hc h45 hend
            go_wp2_with (at_builtin; refine wpList_append_own _ rfl _ _ 45 rfl W.heap.size 9 i0 (.string ByteArray.empty) 1 16 Tryd.underlying45 hi hz0 hz1 hz2 rfl (by decide) _ _ _ rfl (World.ownsRow.alloc HO.out _) ⟨_, 0, none⟩ 1 1 [.string (S cur)] rfl rfl (cell_one_new _ _ _) (by simp [Value.oneCell']) (by have : maxLen = 9223372036854775807 := rfl; omega) (by omega) (by have := HB.out.size; simp; omega) ?_; intro v' z1 hown' hgrow _; have HW := Lib.hid hown'; have HG := Lib.hid hgrow; clear hown' hgrow)
            go_roundw
            case rel =>
              refine ⟨out ++ [cur], k + 1, k + 1, ⟨Nat.le_refl _, by omega, by simp; omega⟩, by go_num, by go_num, ?_, .inl ⟨by omega, HE.out⟩, ?_⟩
              · show World.ownsRow _ _ _ _ _ _ _
                rw [List.length_append, List.length_singleton, List.map_append]
                exact HW.out
              · exact (HB.out.alloc HB.out.size _).grown HG.out (by have := HB.out.size; simp; omega) (fun k e => (World.ownsRow.lt HO.out k e).1)
            case measure => first | (simp [intOf]; done) | (simp [intOf]; omega)
          · rw [h95, show ((95 : UInt8).toNat : Int) = 95 from rfl] at hx
            clear hI hJ hcu hc h95 hend
            go_wp2_with (at_builtin; refine wpList_append_own _ rfl _ _ 45 rfl W.heap.size 9 i0 (.string ByteArray.empty) 1 16 Tryd.underlying45 hi hz0 hz1 hz2 rfl (by decide) _ _ _ rfl (World.ownsRow.alloc HO.out _) ⟨_, 0, none⟩ 1 1 [.string (S cur)] rfl rfl (cell_one_new _ _ _) (by simp [Value.oneCell']) (by have : maxLen = 9223372036854775807 := rfl; omega) (by omega) (by have := HB.out.size; simp; omega) ?_; intro v' z1 hown' hgrow _; have HW := Lib.hid hown'; have HG := Lib.hid hgrow; clear hown' hgrow)
            go_roundw
            case rel =>
              refine ⟨out ++ [cur], k + 1, k + 1, ⟨Nat.le_refl _, by omega, by simp; omega⟩, by go_num, by go_num, ?_, .inl ⟨by omega, HE.out⟩, ?_⟩
              · show World.ownsRow _ _ _ _ _ _ _
                rw [List.length_append, List.length_singleton, List.map_append]
                exact HW.out
              · exact (HB.out.alloc HB.out.size _).grown HG.out (by have := HB.out.size; simp; omega) (fun k e => (World.ownsRow.lt HO.out k e).1)
            case measure => first | (simp [intOf]; done) | (simp [intOf]; omega)
        · have HE := Lib.hid (hI.go hak hlt hc)
          obtain ⟨h45, h95⟩ := (hy_is _).1 hc
          obtain ⟨x, hxx⟩ : ∃ x : Int, ((l[k]).toNat : Int) = x := ⟨_, rfl⟩
          have e1 : (x == 45) = false := by
            rw [beq_eq_false_iff_ne]
            exact fun e => h45 (UInt8.toNat_inj.1 (by show (l[k]).toNat = 45; omega))
          have e2 : (x == 95) = false := by
            rw [beq_eq_false_iff_ne]
            exact fun e => h95 (UInt8.toNat_inj.1 (by show (l[k]).toNat = 95; omega))
          rw [hxx] at hx
          clear hI hJ hcu hc h45 h95 hxx hend
          go_wp2_with fail
          go_roundw
          case rel => exact ⟨out, a, k + 1, ⟨by omega, by omega, by omega⟩, rfl, by go_num, HO.out, .inl ⟨by omega, HE.out⟩, HB.out⟩
          case measure => first | (simp [intOf]; done) | (simp [intOf]; omega)
    · have hgt : ¬ (k : Int) ≤ (l.length : Int) := by omega
      have hD : splitR l = out := by
        rcases hJ with h | h
        · omega
        · exact h.2
      have HD := Lib.hid hD
      clear hJ hD
      go_wp2
      go_ret
      exact ⟨_, rfl, by rw [HD.out]; exact HO.out, HB.out⟩
end Go.Proofs.YtaccjifhgohfpaaDoor
