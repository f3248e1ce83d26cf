import Derived.Test.YtekpmpghbeeeoaaGreatDoorLexPrint
import Derived.Test.YtekpmpghbeeeoaaGreatDoorLexLib
import Derived.Test.YtekpmpghbeeeoaaGreatDoorLexHex
import Derived.Laws.BitsAllLaws
/- strconv.FormatInt in base 16. -/
namespace Go.Proofs.YtekpmpghbeeeoaaGreatDoor
open Go.RowKit Go.Shelf Go.Proofs.YtekpmpghbeeeoaaGreatDoorW.PrintWords Go.Proofs.YtekpmpghbeeeoaaGreatDoorW.PrintMore

/-- The cell of the table that the base's power is read from. -/
def TZ (w : World) : Prop := w.cell? ⟨6, 15, none⟩ = some (.int .u8 4)
theorem TZ.below {w w1 : World} (h : TZ w) (hb : Below w.heap.size w w1) : TZ w1 := pw_cell_below hb h
theorem pow2_is (w : World) : Calls Tryz.prog 94 #[.int .i64 16] w fun e w' => e = .returned (.bool true) ∧ w = w' := by
  go_enter Tryz.func94, Tryz.ntmps94
  go_wp2
  go_ret
  exact ⟨rfl, rfl⟩
theorem tz64_is (w : World) (hT : TZ w) : Calls Tryz.prog 108 #[.int .u64 16] w fun e w' => e = .returned (.int .i64 4) ∧ w = w' := by
  unfold TZ at hT
  have h1 : IntKind.u64.wrap (-16) = 18446744073709551600 := by rw [IntKind.wrap_u64]; decide
  have h2 : bits .and .u64 16 18446744073709551600 = 16 := by decide +kernel
  have h3 : IntKind.u64.wrap (16 * 285870213051353865) = 4573923408821661840 := by rw [IntKind.wrap_u64]; decide
  go_enter Tryz.func108, Tryz.ntmps108
  go_wp2
  go_ret
  exact ⟨rfl, rfl⟩
theorem tz_is (w : World) (hT : TZ w) : Calls Tryz.prog 95 #[.int .u64 16] w fun e w' => e = .returned (.int .i64 4) ∧ w = w' := by
  have H := Lib.hid (tz64_is w hT)
  go_enter Tryz.func95, Tryz.ntmps95
  go_wp2_with fail
  refine H.out.mono ?_
  rintro e w1 ⟨rfl, rfl⟩
  go_wp2
  go_ret
  exact ⟨rfl, rfl⟩
def dgl (n : Nat) : UInt8 := if n < 10 then UInt8.ofNat (48 + n) else UInt8.ofNat (87 + n)
def digs : ByteArray := { data := #[48, 49, 50, 51, 52, 53, 54, 55, 56, 57, 97, 98, 99, 100, 101, 102, 103, 104, 105, 106, 107, 108, 109, 110, 111, 112, 113, 114, 115, 116, 117, 118, 119, 120, 121, 122] }
theorem digs_at : ∀ k ∈ List.range 16, ∃ h : k < digs.size, (digs[k]'h) = dgl k := by decide +kernel
theorem dig_run {d : Nat} (h : d < 16) (W : World) : (Instr.index 9 (.string digs) (.int .u64 (d : Int))).run Tryz.prog W = .ok (.int .u8 ((dgl d).toNat : Int)) W := by
  obtain ⟨h1, h2⟩ := digs_at d (List.mem_range.2 h)
  rw [run_index_string W 9 digs .u64 (d : Int) Tryz.underlying9, dif_pos ⟨by omega, by omega⟩]
  simp only [Int.toNat_natCast]
  rw [h2]
def hexlF : Nat → Nat → List UInt8
  | 0, _ => []
  | f + 1, n => if n < 16 then [dgl n] else hexlF f (n / 16) ++ [dgl (n % 16)]
theorem up_facts : ∀ k ∈ List.range 16, Lib.upperB (dgl k) = dgU k ∧ (dgl k).toNat < 128 := by decide +kernel
theorem hexlF_up : ∀ (f n : Nat), (hexlF f n).map Lib.upperB = hexF f n
  | 0, _ => rfl
  | f + 1, n => by
    rw [hexlF, hexF]
    split
    · rename_i h
      rw [List.map_singleton, (up_facts n (List.mem_range.2 h)).1]
    · rw [List.map_append, hexlF_up f, List.map_singleton, (up_facts _ (List.mem_range.2 (Nat.mod_lt _ (by decide)))).1]
theorem hexlF_ascii : ∀ (f n : Nat), ∀ b ∈ hexlF f n, b.toNat < 128
  | 0, _, b, h => by cases h
  | f + 1, n, b, h => by
    rw [hexlF] at h
    split at h
    · rename_i hn
      rw [List.mem_singleton.1 h]
      exact (up_facts n (List.mem_range.2 hn)).2
    · rcases List.mem_append.1 h with h | h
      · exact hexlF_ascii f _ b h
      · rw [List.mem_singleton.1 h]
        exact (up_facts _ (List.mem_range.2 (Nat.mod_lt _ (by decide)))).2
theorem hexlF_len : ∀ (f n : Nat), (hexlF f n).length ≤ f
  | 0, _ => Nat.le_refl _
  | f + 1, n => by
    rw [hexlF]
    split
    · simp
    · have := hexlF_len f (n / 16)
      simp
      omega
/-- The array's bytes. -/
def Arr (W : World) (g : Nat) (xs : List Int) : Prop := ∃ t, W.heap[g]? = some (.cells (nums .u8 xs).toArray t (0, 0))
theorem Arr.cell {W : World} {g : Nat} {xs : List Int} (h : Arr W g xs) {j : Nat} (hj : j < xs.length) : W.cell? ⟨g, j, none⟩ = some (.int .u8 (xs.getD j 0)) ∧ W.frozen? ⟨g, j, none⟩ = false := by
  obtain ⟨t, h⟩ := h
  constructor
  · unfold World.cell?
    rw [h]
    simp [nums, List.getElem?_eq_getElem hj]
  · unfold World.frozen?
    rw [h]
    simp
theorem Arr.set_ {W : World} {g : Nat} {xs : List Int} (h : Arr W g xs) (i : Nat) (x : Int) : Arr (W.setCell ⟨g, i, none⟩ (.int .u8 x)) g (xs.set i x) := by
  obtain ⟨t, h1⟩ := h
  have hg := (Array.getElem?_eq_some_iff.1 h1).1
  refine ⟨t, ?_⟩
  unfold World.setCell
  simp only [Array.getElem?_modify, if_pos, h1]
  simp [nums, List.map_set]
theorem drop_set {xs : List Int} {i : Nat} (h : i < xs.length) (x : Int) : (xs.set i x).drop i = x :: xs.drop (i + 1) := by
  rw [List.drop_eq_getElem_cons (by simpa using h), List.drop_set_of_lt (by omega)]
  simp
theorem slice_arr (g f : Nat) (h : 0 < f) (h8 : f ≤ 8) (W : World) : (Instr.sliceAt 114 (.pointer (some ⟨g, 0, none⟩)) (some (.int .i64 ((57 : Int) + (f : Int) - 1))) none none).run Tryz.prog W = .ok (.slice (some ⟨g, 56 + f, none⟩) (9 - f) (9 - f)) W := by
  have hal : Tryz.prog.arrayLen 114 = 65 := by kernel_rfl
  have hel : Tryz.prog.elem 114 = 5 := by kernel_rfl
  rw [run_sliceAt_array_l W 114 ⟨g, 0, none⟩ (by rw [hal, hel]; exact Tryz.underlying114) .i64 ((57 : Int) + (f : Int) - 1) (by omega) (by rw [hal]; omega), hal, hel]
  have e1 : ((57 : Int) + (f : Int) - 1).toNat = 56 + f := by omega
  rw [e1]
  have e2 : ({ block := g, off := 0, spot := none } : Addr).add (56 + f) = ⟨g, 56 + f, none⟩ := by unfold Addr.add; split <;> simp_all
  have e3 : 65 - (56 + f) = 9 - f := by omega
  have hs : (sizeOf 5).run Tryz.prog W = .ok 1 W := Tryz.sizeOf5 W
  rw [hs]
  simp only [Result.andThen_ok, slicedAt, Nat.mul_one, e2, e3]
  rw [if_neg (by omega)]
theorem Arr.reads {W : World} {g : Nat} {xs : List Int} (h : Arr W g xs) (i : Nat) (hm : xs.length ≤ 9223372036854775807) : ReadsInt W .u8 (some ⟨g, i, none⟩) (xs.drop i).length (xs.drop i) :=
  ⟨rfl, by rw [List.length_drop]; omega, fun _ => ⟨_, rfl, fun j hj => by
    rw [List.length_drop] at hj
    have e : ({ block := g, off := i, spot := none } : Addr).add j = ⟨g, i + j, none⟩ := by unfold Addr.add; split <;> simp_all
    rw [e, (h.cell (j := i + j) (by omega)).1]
    simp [List.getD_eq_getElem?_getD]⟩⟩
set_option maxRecDepth 100000 in
set_option maxHeartbeats 4000000 in
theorem bits_is (n : Nat) (hn : n < 16777216) (W : World) (hT : TZ W) :
    Calls Tryz.prog 78 #[.slice none 0 0, .int .u64 (n : Int), .int .i64 16, .bool false, .bool false] W fun e w' => e = .returned (.tuple #[.slice none 0 0, .string (S (hexlF 8 n))]) ∧ Below W.heap.size W w' := by
  have HP := Lib.hid pow2_is
  have HT := Lib.hid tz_is
  have HTW := Lib.hid hT
  clear hT
  go_enter Tryz.func78, Tryz.ntmps78
  go_wp2_with fail
  refine (HP.out _).mono ?_
  rintro e w1 ⟨rfl, rfl⟩
  go_wp2_with fail
  refine (HT.out _ (HTW.out.below ((Below.refl _ _).alloc (Nat.le_refl _) _))).mono ?_
  rintro e w1 ⟨rfl, rfl⟩
  have hz : Tryz.zeroCells114 = (nums .u8 (List.replicate 65 0)).toArray := by kernel_rfl
  rw [hz]
  clear hz
  have HA0 : Hid (Arr (W.alloc (.cells (nums .u8 (List.replicate 65 0)).toArray 114)) W.heap.size (List.replicate 65 0)) := Lib.hid ⟨_, World.alloc_heap_new W _⟩
  have HB0 : Hid (Below W.heap.size W (W.alloc (.cells (nums .u8 (List.replicate 65 0)).toArray 114))) := Lib.hid ((Below.refl _ _).alloc (Nat.le_refl _) _)
  generalize W.alloc (.cells (nums .u8 (List.replicate 65 0)).toArray 114) = W0 at *
  go_wp2_with fail
  go_loopw [1, 13] (fun u i wr => ∃ (f v : Nat) (xs : List Int) (bs : List UInt8), u = .int .u64 (v : Int) ∧ i = .int .i64 ((57 : Int) + (f : Int)) ∧ 0 < f ∧ f ≤ 8 ∧ v < 16777216 ∧ Hid (v < 16 ^ f) ∧ Hid (xs.length = 65) ∧ Hid (hexlF 8 n = hexlF f v ++ bs) ∧ Hid (xs.drop (57 + f) = nl bs) ∧ Hid (Arr wr W.heap.size xs) ∧ Hid (Below W.heap.size W wr)) (fun u i _ => (intOf i).toNat)
  case atStart => exact ⟨8, n, List.replicate 65 0, [], rfl, rfl, by omega, by omega, hn, Lib.hid (Nat.lt_trans hn (by decide)), Lib.hid rfl, Lib.hid (by rw [List.append_nil]), Lib.hid rfl, HA0, HB0⟩
  case round =>
    obtain ⟨f, v, xs, bs, rfl, rfl, hf, hf8, hv, HV, HXL, HEQ, HDR, HA, HB⟩ := hrel
    by_cases h16 : 16 ≤ v
    · have hand : bits .and .u64 (v : Int) 15 = ((v % 16 : Nat) : Int) := by
        have := u64_and_nat v 15 (by omega) (by omega)
        rw [show v &&& 15 = v % 16 from Nat.and_two_pow_sub_one_eq_mod v 4] at this
        exact this
      have hd := fun W => dig_run (d := v % 16) (Nat.mod_lt _ (by decide)) W
      unfold digs at hd
      obtain ⟨q, hq⟩ : ∃ q, v % 16 = q := ⟨_, rfl⟩
      rw [hq] at hand hd
      have hq16 : q < 16 := by omega
      have hf2 : 2 ≤ f := by
        rcases Nat.lt_or_ge f 2 with h | h
        · obtain rfl : f = 1 := by omega
          have := HV.out
          omega
        · exact h
      have HV2 : Hid (v / 16 < 16 ^ (f - 1)) := Lib.hid (by
        have h1 := HV.out
        obtain ⟨g, rfl⟩ : ∃ g, f = g + 1 := ⟨f - 1, by omega⟩
        rw [Nat.pow_succ] at h1
        rw [Nat.add_sub_cancel]
        omega)
      have HEQ2 : Hid (hexlF 8 n = hexlF (f - 1) (v / 16) ++ (dgl q :: bs)) := Lib.hid (by
        rw [HEQ.out]
        obtain ⟨g, rfl⟩ : ∃ g, f = g + 1 := ⟨f - 1, by omega⟩
        rw [hexlF, if_neg (by omega), hq, Nat.add_sub_cancel, List.append_assoc]
        rfl)
      obtain ⟨hc, hfz⟩ := HA.out.cell (j := 56 + f) (by rw [HXL.out]; omega)
      have HA2 : Hid (Arr (wr.setCell ⟨W.heap.size, 56 + f, none⟩ (.int .u8 ((dgl q).toNat : Int))) W.heap.size (xs.set (56 + f) ((dgl q).toNat : Int))) := Lib.hid (HA.out.set_ _ _)
      have HD2 : Hid ((xs.set (56 + f) ((dgl q).toNat : Int)).drop (57 + (f - 1)) = nl (dgl q :: bs)) := Lib.hid (by
        rw [show 57 + (f - 1) = 56 + f from by omega, drop_set (by rw [HXL.out]; omega), show 56 + f + 1 = 57 + f from by omega, HDR.out]
        rfl)
      have HB2 : Hid (Below W.heap.size W (wr.setCell ⟨W.heap.size, 56 + f, none⟩ (.int .u8 ((dgl q).toNat : Int)))) := Lib.hid (HB.out.setCell (Nat.le_refl _) _)
      have hv2 : ((v / 16 : Nat) : Int) = (v : Int) / 16 := by omega
      clear hq HV HEQ HDR
      go_wp2_with fail
      refine ⟨⟨f - 1, v / 16, _, _, by rw [hv2], (by congr 1; omega), by omega, by omega, by omega, HV2, Lib.hid (by rw [List.length_set]; exact HXL.out), HEQ2, HD2, HA2, HB2⟩, by simp [intOf]; omega⟩
    · have hv16 : v < 16 := by omega
      have hd := fun W => dig_run (d := v) hv16 W
      unfold digs at hd
      have HEQ2 : Hid (hexlF 8 n = dgl v :: bs) := Lib.hid (by
        rw [HEQ.out]
        obtain ⟨g, rfl⟩ : ∃ g, f = g + 1 := ⟨f - 1, by omega⟩
        rw [hexlF, if_pos hv16]
        rfl)
      obtain ⟨hc, hfz⟩ := HA.out.cell (j := 56 + f) (by rw [HXL.out]; omega)
      have HA2 : Hid (Arr (wr.setCell ⟨W.heap.size, 56 + f, none⟩ (.int .u8 ((dgl v).toNat : Int))) W.heap.size (xs.set (56 + f) ((dgl v).toNat : Int))) := Lib.hid (HA.out.set_ _ _)
      have HD2 : Hid ((xs.set (56 + f) ((dgl v).toNat : Int)).drop (56 + f) = nl (dgl v :: bs)) := Lib.hid (by
        rw [drop_set (by rw [HXL.out]; omega), show 56 + f + 1 = 57 + f from by omega, HDR.out]
        rfl)
      have HB2 : Hid (Below W.heap.size W (wr.setCell ⟨W.heap.size, 56 + f, none⟩ (.int .u8 ((dgl v).toNat : Int)))) := Lib.hid (HB.out.setCell (Nat.le_refl _) _)
      have hsl := fun W' => slice_arr W.heap.size f hf hf8 W'
      have hlen : (nl (dgl v :: bs)).length = 9 - f := by
        rw [← HD2.out, List.length_drop, List.length_set, HXL.out]
        omega
      have hcv : (convert 39 9 (.slice (some ⟨W.heap.size, 56 + f, none⟩) (9 - f) (9 - f))).run Tryz.prog (wr.setCell ⟨W.heap.size, 56 + f, none⟩ (.int .u8 ((dgl v).toNat : Int))) = .ok (.string (S (hexlF 8 n))) (wr.setCell ⟨W.heap.size, 56 + f, none⟩ (.int .u8 ((dgl v).toNat : Int))) := by
        have hrd := HA2.out.reads (56 + f) (by rw [List.length_set, HXL.out]; decide)
        rw [HD2.out] at hrd
        have := conv_bytes_string (P := Tryz.prog) 39 5 9 Tryz.underlying39 Tryz.underlying5 Tryz.underlying9 hrd (9 - f)
        rw [hlen, nl_str] at this
        rw [HEQ2.out]
        exact this
      clear HV HEQ HDR HD2 HEQ2 HA2 hlen
      obtain ⟨sr, hsr⟩ : ∃ x, S (hexlF 8 n) = x := ⟨_, rfl⟩
      rw [hsr] at hcv
      have HSR := Lib.hid hsr
      clear hsr
      go_wp2_with fail
      go_ret2
      exact ⟨by rw [HSR.out]; rfl, HB2.out⟩
theorem fmt_in (n : Nat) (hn : n < 16777216) (W : World) (hT : TZ W) :
    Calls Tryz.prog 59 #[.int .i64 (n : Int), .int .i64 16] W fun e w' => e = .returned (.string (S (hexlF 8 n))) ∧ Below W.heap.size W w' := by
  have H := Lib.hid (bits_is n hn W hT)
  have hw : IntKind.u64.wrap (n : Int) = (n : Int) := by rw [IntKind.wrap_u64]; omega
  clear hT
  generalize S (hexlF 8 n) = sr at *
  go_enter Tryz.func59, Tryz.ntmps59
  go_wp2_with fail
  refine H.out.mono ?_
  rintro e w1 ⟨rfl, hb⟩
  have HB := Lib.hid hb
  clear hb
  go_wp2_with fail
  go_ret
  exact ⟨rfl, HB.out⟩
theorem lib_fmt (n : Nat) (hn : n < 16777216) (W : World) (hT : TZ W) :
    Calls Tryz.prog 38 #[.int .i64 (n : Int), .int .i64 16] W fun e w' => e = .returned (.string (S (hexlF 8 n))) ∧ Below W.heap.size W w' := by
  have H := Lib.hid (fmt_in n hn W hT)
  clear hT
  generalize S (hexlF 8 n) = sr at *
  go_enter Tryz.func38, Tryz.ntmps38
  go_wp2_with fail
  refine H.out.mono ?_
  rintro e w1 ⟨rfl, hb⟩
  have HB := Lib.hid hb
  clear hb
  go_wp2_with fail
  go_ret
  exact ⟨rfl, HB.out⟩
end Go.Proofs.YtekpmpghbeeeoaaGreatDoor
