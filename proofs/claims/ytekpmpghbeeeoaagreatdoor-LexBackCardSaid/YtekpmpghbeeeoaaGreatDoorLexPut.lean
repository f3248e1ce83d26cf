import Derived.Test.YtekpmpghbeeeoaaGreatDoorLexFmt
import Derived.Lib.SplitLaws
/- package lex: put. -/
namespace Go.Proofs.YtekpmpghbeeeoaaGreatDoor
open Go.RowKit Go.Shelf Go.Proofs.YtekpmpghbeeeoaaGreatDoorW.PrintWords Go.Proofs.YtekpmpghbeeeoaaGreatDoorW.PrintMore

/-- The library's own variable holds a number. -/
def ML (w : World) : Prop := ∃ m, w.cell? ⟨4, 0, none⟩ = some (.int .i64 m)
theorem ML.below {w w1 : World} (h : ML w) (hb : Below w.heap.size w w1) : ML w1 := by
  obtain ⟨m, hm⟩ := h
  exact ⟨m, pw_cell_below hb hm⟩
theorem TryzlayRepX : Builder.Extra Tryz.prog TryzlayRep_ren := ⟨⟨by kernel_rfl, by kernel_rfl⟩, Tryz.underlying5, Tryz.isAgg5, Tryz.sizeOf5, Tryz.zeroValue5, by kernel_rfl, by kernel_rfl, by kernel_rfl, by decide⟩
theorem TryzlayUpX : Builder.Extra Tryz.prog TryzlayUp_ren := ⟨⟨by kernel_rfl, by kernel_rfl⟩, Tryz.underlying5, Tryz.isAgg5, Tryz.sizeOf5, Tryz.zeroValue5, by kernel_rfl, by kernel_rfl, by kernel_rfl, by decide⟩
theorem index_cons1 (b : UInt8) (l : List UInt8) (c : UInt8) : Lib.index (b :: l) [c] = if b = c then 0 else if Lib.index l [c] = -1 then -1 else Lib.index l [c] + 1 := by
  conv => lhs; unfold Lib.index
  by_cases h : b = c
  · subst h
    simp [List.isPrefixOf]
  · have h2 : ¬ c = b := fun e => h e.symm
    simp [List.isPrefixOf, h, h2]
def repB (c : UInt8) (new : List UInt8) (b : UInt8) : List UInt8 := if b = c then new else [b]
theorem rep_id (c : UInt8) (new : List UInt8) : ∀ {l : List UInt8}, c ∉ l → l.flatMap (repB c new) = l
  | [], _ => rfl
  | b :: l, h => by
    rw [List.flatMap_cons, rep_id c new (fun e => h (List.mem_cons_of_mem _ e)), repB, if_neg (fun e => h (by rw [e]; exact List.mem_cons_self ..))]
    rfl
theorem index_at (c : UInt8) (l : List UInt8) : (Lib.index l [c] = -1 ∧ c ∉ l) ∨ ∃ i : Nat, i < l.length ∧ Lib.index l [c] = (i : Int) ∧ c ∉ l.take i ∧ l = l.take i ++ c :: l.drop (i + 1) := by
  induction l with
  | nil => exact .inl ⟨by simp [Lib.index], by simp⟩
  | cons b l ih =>
    rw [index_cons1]
    by_cases h : b = c
    · subst h
      exact .inr ⟨0, by simp, by simp, by simp, by simp⟩
    · have h2 : ¬ c = b := fun e => h e.symm
      rw [if_neg h]
      rcases ih with ⟨h1, h4⟩ | ⟨i, hi, h1, h4, h5⟩
      · rw [if_pos h1]
        exact .inl ⟨rfl, by simp [h2, h4]⟩
      · rw [h1, if_neg (by omega)]
        refine .inr ⟨i + 1, by simp; omega, by omega, by simp [h2, h4], ?_⟩
        rw [List.take_succ_cons, List.drop_succ_cons, List.cons_append, ← h5]
theorem repK_all (c : UInt8) (new : List UInt8) : ∀ (k : Nat) (l : List UInt8), l.count c ≤ k → Lib.replaceK [c] new k l = l.flatMap (repB c new)
  | 0, l, h => by
    have : c ∉ l := fun e => by have := List.count_pos_iff.2 e; omega
    rw [rep_id c new this]
    rfl
  | k + 1, l, h => by
    rcases index_at c l with ⟨h1, h2⟩ | ⟨i, hi, h1, h2, h3⟩
    · rw [rep_id c new h2]
      unfold Lib.replaceK
      rw [h1]
      rfl
    · rw [Lib.replaceK_hit _ _ _ _ i h1]
      have hc : (l.drop (i + 1)).count c ≤ k := by
        rw [h3, List.count_append, List.count_cons_self] at h
        omega
      rw [List.length_singleton, repK_all c new k _ hc]
      conv => rhs; rw [h3, List.flatMap_append, List.flatMap_cons, rep_id c new h2]
      simp [repB]
theorem rep_len (c : UInt8) (new : List UInt8) : ∀ (l : List UInt8), (l.flatMap (repB c new)).length ≤ l.length * (new.length + 1)
  | [] => by simp
  | b :: l => by
    rw [List.flatMap_cons, List.length_append, List.length_cons, Nat.succ_mul]
    have := rep_len c new l
    have h2 : (repB c new b).length ≤ new.length + 1 := by unfold repB; split <;> simp
    omega
theorem rep92_len (l : List UInt8) : (l.flatMap (repB 92 [92, 92])).length ≤ 2 * l.length := by
  induction l with
  | nil => simp
  | cons b l ih =>
    rw [List.flatMap_cons, List.length_append, List.length_cons]
    have : (repB 92 [92, 92] b).length ≤ 2 := by unfold repB; split <;> simp
    omega
theorem lib_rep (s : List UInt8) (c : UInt8) (new : List UInt8) (hn : new ≠ [c]) (hs : s.length ≤ 2000000) (hn2 : new.length ≤ 2) (w : World) (hM : ML w) : Calls Tryz.prog 36 #[.string (S s), .string (S [c]), .string (S new)] w fun e w' => e = .returned (.string (S (s.flatMap (repB c new)))) ∧ Below w.heap.size w w' := by
  obtain ⟨m, hm⟩ := hM
  have h1 : 1 ≤ (S [c]).size := by rw [S_size]; simp
  have hc := Lib.countB_mul_le (S [c]) h1 (S s).size (S s) (Nat.le_refl _)
  rw [S_size, S_size] at hc
  have hc2 : Lib.countB (S s) (S [c]) ≤ s.length := by simp at hc; omega
  refine (Any.strings_ReplaceAll TryzlayRep TryzlayRepX (S s) (S [c]) (S new) m w (by rw [S_size]; omega) hm h1 (by
    rw [S_size, S_size]
    have := Nat.mul_le_mul hc2 hn2
    omega)).mono ?_
  rintro e w' ⟨rfl, hb⟩
  refine ⟨?_, hb⟩
  have key : Lib.replaceAll (S s).data.toList (S [c]).data.toList (S new).data.toList = s.flatMap (repB c new) := by
    show Lib.replaceAll s [c] new = _
    unfold Lib.replaceAll Lib.replace Lib.replaceNum
    rw [if_neg (by simpa using fun e : [c] = new => hn e.symm), if_pos (.inl (by decide)), Lib.count_one]
    exact repK_all c new _ _ (Nat.le_refl _)
  rw [key]
  rfl
theorem lib_up (s : List UInt8) (hs : s.length ≤ 1000000) (ha : ∀ b ∈ s, b.toNat < 128) (w : World) : Calls Tryz.prog 37 #[.string (S s)] w fun e w' => e = .returned (.string (S (s.map Lib.upperB))) ∧ Below w.heap.size w w' :=
  Any.strings_ToUpper_ascii TryzlayUp TryzlayUpX (S s) w (by rw [S_size]; omega) (fun j b hb => ha b (List.mem_of_getElem? hb))
theorem esc_two (s : List UInt8) : (s.flatMap (repB 92 [92, 92])).flatMap (repB 34 [92, 34]) = s.flatMap escB := by
  rw [List.flatMap_assoc]
  congr 1
  funext b
  unfold escB repB
  by_cases h : b = 92
  · subst h; decide
  · rw [if_neg h, if_neg h]
    simp
theorem add_str (a b : List UInt8) (ha : a.length ≤ 100000000) (hb : b.length ≤ 100000000) : S a ++ S b = S (a ++ b) ∧ ¬ 9223372036854775807 < (S a).size + (S b).size := ⟨S_cat a b, by rw [S_size, S_size]; omega⟩
theorem esc_len (s : List UInt8) : (s.flatMap escB).length ≤ 2 * s.length := by
  induction s with
  | nil => simp
  | cons b l ih =>
    rw [List.flatMap_cons, List.length_append, List.length_cons]
    have : (escB b).length ≤ 2 := by unfold escB; split; decide; split <;> simp
    omega
set_option maxRecDepth 100000 in
set_option maxHeartbeats 4000000 in
theorem lex_put (k a r : Int) (tx : List UInt8) (hk : 1 ≤ k ∧ k ≤ 8) (hl : tx.length ≤ 1000000) (w : World) (hM : ML w) (hZ : TZ w) :
    Calls Tryz.prog 24 #[.agg #[.int .i64 k, .int .i64 a, .string (S tx), .int .i32 r]] w fun e w' => e = .returned (.string (S (putL k tx r))) ∧ Below w.heap.size w w' := by
  have HB0 : Hid (Below w.heap.size w (w.alloc (.cells #[.int .i64 k, .int .i64 a, .string (S tx), .int .i32 r] 33))) := Lib.hid ((Below.refl _ _).alloc (Nat.le_refl _) _)
  have HM0 := Lib.hid (hM.below HB0.out)
  have HZ0 := Lib.hid (hZ.below HB0.out)
  clear hM hZ
  have hcase : k = 1 ∨ k = 2 ∨ k = 4 ∨ k = 5 ∨ k = 7 ∨ k = 3 ∨ k = 6 ∨ k = 8 := by omega
  have c1 : S [36] = { data := #[36] } := rfl
  have c2 : S [34] = { data := #[34] } := rfl
  have c3 : S [123] = { data := #[123] } := rfl
  have c4 : S [125] = { data := #[125] } := rfl
  have c5 : S [39, 92, 117, 123] = { data := #[39, 92, 117, 123] } := rfl
  have c6 : S [92] = { data := #[92] } := rfl
  have c7 : S [92, 92] = { data := #[92, 92] } := rfl
  have c8 : S [92, 34] = { data := #[92, 34] } := rfl
  rcases hcase with rfl | rfl | rfl | rfl | rfl | h
  · have HE : Hid (S (putL 1 tx r) = S (36 :: tx)) := Lib.hid rfl
    obtain ⟨e1, e2⟩ := add_str [36] tx (by simp) (by omega)
    rw [c1] at e1 e2
    clear hk c1 c2 c3 c4 c5 c6 c7 c8
    rw [HE.out]
    rw [show [36] ++ tx = 36 :: tx from rfl] at e1
    generalize S (36 :: tx) = sr at *
    generalize S tx = st at *
    go_enter Tryz.func24, Tryz.ntmps24
    go_wp2_with fail
    go_ret
    exact ⟨rfl, HB0.out⟩
  · have HE : Hid (S (putL 2 tx r) = S ([34] ++ (tx.flatMap escB ++ [34]))) := Lib.hid rfl
    have hel := esc_len tx
    have hrl := rep_len 92 [92, 92] tx
    simp only [List.length_cons, List.length_nil] at hrl
    have HR1 := Lib.hid (lib_rep tx 92 [92, 92] (by decide) (by omega) (by decide) _ HM0.out)
    have HR2 := Lib.hid (fun W hM => lib_rep (tx.flatMap (repB 92 [92, 92])) 34 [92, 34] (by decide) (by have := rep92_len tx; omega) (by decide) W hM)
    rw [esc_two] at HR2
    obtain ⟨e1, e2⟩ := add_str [34] (tx.flatMap escB) (by simp) (by omega)
    obtain ⟨e3, e4⟩ := add_str ([34] ++ tx.flatMap escB) [34] (by rw [List.length_append, List.length_singleton]; omega) (by simp)
    rw [c6, c7] at HR1
    rw [c2, c8] at HR2
    rw [c2] at e1 e2 e3 e4
    rw [List.append_assoc] at e3
    clear hk c1 c2 c3 c4 c5 c6 c7 c8 hrl hel
    rw [HE.out]
    clear HE
    generalize S ([34] ++ (tx.flatMap escB ++ [34])) = sr at *
    generalize S ([34] ++ tx.flatMap escB) = s3 at *
    generalize S (tx.flatMap escB) = s2 at *
    generalize S (tx.flatMap (repB 92 [92, 92])) = s1 at *
    generalize S tx = st at *
    go_enter Tryz.func24, Tryz.ntmps24
    go_wp2_with fail
    refine HR1.out.mono ?_
    rintro e w1 ⟨he, hb1⟩
    subst he
    have HM1 := Lib.hid (HM0.out.below hb1)
    have HB1 := Lib.hid (HB0.out.trans (hb1.mono HB0.out.size))
    clear hb1
    go_wp2_with fail
    refine (HR2.out _ HM1.out).mono ?_
    rintro e w2 ⟨he, hb2⟩
    subst he
    have HB2 := Lib.hid (HB1.out.trans (hb2.mono HB1.out.size))
    clear hb2
    go_wp2_with fail
    go_ret
    exact ⟨rfl, HB2.out⟩
  · obtain ⟨m, hm⟩ : ∃ m, (min (max r 0) 1114111).toNat = m := ⟨_, rfl⟩
    have hmi : (m : Int) = min (max r 0) 1114111 := by omega
    have HE : Hid (S (putL 4 tx r) = S ([39, 92, 117, 123] ++ (hexL m ++ [125]))) := Lib.hid (by show S (codeL _) = _; rw [hm]; rfl)
    obtain ⟨m1, hm1⟩ : ∃ m1 : Int, max r 0 = m1 := ⟨_, rfl⟩
    have hmax : ∀ ats ty, Builtin.max_ ats ty #[.int .i32 r, .int .i32 0] = pure (.int .i32 m1) := fun ats ty => max_is (by rw [← hm1]; split <;> omega) ats ty
    have hmin : ∀ ats ty, Builtin.min_ ats ty #[.int .i32 m1, .int .i32 1114111] = pure (.int .i32 (m : Int)) := fun ats ty => min_is (by rw [hmi, hm1]; split <;> omega) ats ty
    have hm0 : m < 16777216 := by omega
    have hw : IntKind.i64.wrap (m : Int) = (m : Int) := wrap_small _ (by omega) (by omega)
    have HF := Lib.hid (fun W hZ => lib_fmt m hm0 W hZ)
    have HU := Lib.hid (fun W => lib_up (hexlF 8 m) (by have := hexlF_len 8 m; omega) (hexlF_ascii 8 m) W)
    rw [hexlF_up, show hexF 8 m = hexL m from rfl] at HU
    have hhl := (hexL_facts (n := m) (by omega)).2.2.2 hm0
    obtain ⟨e1, e2⟩ := add_str [39, 92, 117, 123] (hexL m) (by simp) (by omega)
    obtain ⟨e3, e4⟩ := add_str ([39, 92, 117, 123] ++ hexL m) [125] (by simp; omega) (by simp)
    rw [c5] at e1 e2
    rw [c4] at e3 e4
    rw [List.append_assoc] at e3
    clear hk c1 c2 c3 c4 c5 c6 c7 c8 hhl hm hmi hm1
    rw [HE.out]
    clear HE
    generalize S ([39, 92, 117, 123] ++ (hexL m ++ [125])) = sr at *
    generalize S ([39, 92, 117, 123] ++ hexL m) = s3 at *
    generalize S (hexL m) = s2 at *
    generalize S (hexlF 8 m) = s1 at *
    generalize S tx = st at *
    go_enter Tryz.func24, Tryz.ntmps24
    go_wp2_with fail
    refine (HF.out _ HZ0.out).mono ?_
    rintro e w1 ⟨he, hb1⟩
    subst he
    have HB1 := Lib.hid (HB0.out.trans (hb1.mono HB0.out.size))
    clear hb1
    go_wp2_with fail
    refine (HU.out _).mono ?_
    rintro e w2 ⟨he, hb2⟩
    subst he
    have HB2 := Lib.hid (HB1.out.trans (hb2.mono HB1.out.size))
    clear hb2
    go_wp2_with fail
    go_ret
    exact ⟨rfl, HB2.out⟩
  · have HE : Hid (S (putL 5 tx r) = S ([123] ++ (tx ++ [125]))) := Lib.hid rfl
    obtain ⟨e1, e2⟩ := add_str [123] tx (by simp) (by omega)
    obtain ⟨e3, e4⟩ := add_str ([123] ++ tx) [125] (by simp; omega) (by simp)
    rw [c3] at e1 e2
    rw [c4] at e3 e4
    rw [List.append_assoc] at e3
    clear hk c1 c2 c3 c4 c5 c6 c7 c8
    rw [HE.out]
    clear HE
    generalize S ([123] ++ (tx ++ [125])) = sr at *
    generalize S ([123] ++ tx) = s3 at *
    generalize S tx = st at *
    go_enter Tryz.func24, Tryz.ntmps24
    go_wp2_with fail
    go_ret
    exact ⟨rfl, HB0.out⟩
  · have HE : Hid (S (putL 7 tx r) = { data := #[10] }) := Lib.hid rfl
    clear hk c1 c2 c3 c4 c5 c6 c7 c8
    rw [HE.out]
    generalize S tx = st at *
    go_enter Tryz.func24, Tryz.ntmps24
    go_wp2_with fail
    go_ret
    exact ⟨rfl, HB0.out⟩
  · have HE : Hid (S (putL k tx r) = S tx) := Lib.hid (by unfold putL; rw [if_neg (by omega), if_neg (by omega), if_neg (by omega), if_neg (by omega), if_neg (by omega), if_neg (by omega)])
    rw [HE.out]
    clear hk c1 c2 c3 c4 c5 c6 c7 c8 HE
    generalize S tx = st at *
    rcases h with rfl | rfl | rfl
    all_goals
      go_enter Tryz.func24, Tryz.ntmps24
      go_wp2_with fail
      go_ret
      exact ⟨rfl, HB0.out⟩
end Go.Proofs.YtekpmpghbeeeoaaGreatDoor
