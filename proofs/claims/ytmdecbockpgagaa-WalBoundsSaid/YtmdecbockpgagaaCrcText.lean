import Derived.Test.YtmdecbockpgagaaCrc
/- The contracts of package crc: texts behind their lengths. -/
namespace Go.Proofs.Ytmdecbockpgagaa
open Go.RowKit Go.Proofs.YtmdecbockpgagaaW.PrintWords Go.Proofs.YtmdecbockpgagaaW.PrintMore
attribute [local go_sem] max2_int min2_int max_two min_two

set_option maxHeartbeats 400000 in
theorem crc_text (base : Nat) (v : Value) (xs : List Int) (s : ByteArray) (hs : s.size ≤ 65535) (w : World) (ho : OwnB w base v xs) (hb : base ≤ w.heap.size) (hl : xs.length + 65537 ≤ 140737488355328) :
    Calls Try.prog 50 #[v, .string s] w (AppB w base v (xs ++ (le (s.size : Int) 2 ++ bytesOf s))) := by
  have hlow := crc_lowest16 base v xs (s.size : Int) 2 (by omega) (by omega) w ho hb (by omega)
  have Hlen : ∀ W : World, W.heap.size = W.heap.size → ((xs ++ le (s.size : Int) 2).length + s.size ≤ 140737488355328) := fun _ _ => by rw [List.length_append, le_length]; omega
  have HL := Lib.hid (Hlen w rfl)
  clear Hlen
  go_enter Try.func50, Try.ntmps50
  go_wp2_with (first
    | (go_at_call 76; refine hlow.mono ?_; rintro e w1 ⟨v1, rfl, ho1, hg1, hn1⟩; have Hb1 := Lib.hid (Nat.le_trans hb hg1.size))
    | (at_builtin; refine append_str_at base rfl _ _ _ _ _ rfl Try.underlying22 Try.underlying9 info8 v1 _ s rfl rfl ho1 Hb1.out HL.out ?_; intro v2 w2 ho2 hg2 hn2))
  go_ret
  exact ⟨_, rfl, by rw [← List.append_assoc]; exact ho2, grown_chain hg1 hn1 hg2, hn1.chain hg1.size hn2⟩

def getT (xs : List Int) (most : Int) : List Int × List Int × Int :=
  if xs.length < 2 then ([], xs, 10) else if most < val (xs.take 2) then ([], xs, 93) else if ((xs.drop 2).length : Int) < val (xs.take 2) then ([], xs, 10)
  else ((xs.drop 2).take (val (xs.take 2)).toNat, (xs.drop 2).drop (val (xs.take 2)).toNat, 0)
def GetTP (xs : List Int) (most : Int) (w : World) (e : Ending) (w' : World) : Prop :=
  ∃ u, e = .returned (.tuple #[.string (strOfNums (getT xs most).1), u, .int .i64 (getT xs most).2.2]) ∧ RdB w' u (getT xs most).2.1 ∧ Below w.heap.size w w'

theorem val_take_bd (xs : List Int) (hby : By xs) (k : Nat) : 0 ≤ val (xs.take k) ∧ val (xs.take k) < 2 ^ (8 * k) := by
  have h := val_bd (xs.take k) (fun x hx => hby x (List.mem_of_mem_take hx))
  refine ⟨h.1, Int.lt_of_lt_of_le h.2 ?_⟩
  have h2 := Nat.pow_le_pow_right (n := 2) (by decide) (show 8 * (xs.take k).length ≤ 8 * k from by rw [List.length_take]; omega)
  exact_mod_cast h2

set_option maxHeartbeats 400000 in
theorem crc_getText (v : Value) (xs : List Int) (most : Int) (w : World) (hr : RdB w v xs) (hby : By xs) :
    Calls Try.prog 83 #[v, .int .i64 most] w (GetTP xs most w) := by
  have hget := crc_get v xs 2 w hr hby
  have hvb := val_take_bd xs hby 2
  have hr0 := hr
  obtain ⟨A, c, rfl, hcap, hread⟩ := hr
  clear hread
  by_cases h1 : xs.length < 2
  · have hg : getN xs 2 = (0, xs, 10) := if_pos (by rw [show crcW 2 = 2 from rfl]; omega)
    have ht : getT xs most = ([], xs, 10) := if_pos h1
    unfold GetTP
    rw [ht]
    unfold GetP at hget
    rw [hg] at hget
    clear hg ht
    go_enter Try.func83, Try.ntmps83
    go_wp2_with (go_at_call 91; refine hget.mono ?_; rintro e w1 ⟨u, rfl, hu, hb1⟩)
    go_ret3
    exact ⟨_, rfl, hr0.below hb1, hb1⟩
  · have hg : getN xs 2 = (val (xs.take 2), xs.drop 2, 0) := if_neg (by rw [show crcW 2 = 2 from rfl]; omega)
    unfold GetP at hget
    rw [hg] at hget
    have hyb : By (xs.drop 2) := fun x hx => hby x (List.mem_of_mem_drop hx)
    have ht : getT xs most = if most < val (xs.take 2) then ([], xs, 93) else if ((xs.drop 2).length : Int) < val (xs.take 2) then ([], xs, 10)
        else ((xs.drop 2).take (val (xs.take 2)).toNat, (xs.drop 2).drop (val (xs.take 2)).toNat, 0) := if_neg h1
    unfold GetTP
    rw [ht]
    clear hg ht h1 hby
    generalize val (xs.take 2) = n at hget hvb ⊢
    generalize xs.drop 2 = ys at hget hyb ⊢
    obtain ⟨hn0, hn1⟩ := hvb
    have hn1' : n < 65536 := hn1
    clear hn1
    have hn2 : n % 18446744073709551616 = n := by omega
    by_cases h2 : most < n
    · rw [if_pos h2]
      go_enter Try.func83, Try.ntmps83
      go_wp2_with (go_at_call 91; refine hget.mono ?_; rintro e w1 ⟨u, rfl, hu, hb1⟩)
      go_ret3
      exact ⟨_, rfl, hr0.below hb1, hb1⟩
    · rw [if_neg h2]
      have h2' : n ≤ most := by omega
      by_cases h3 : (ys.length : Int) < n
      · rw [if_pos h3]
        go_enter Try.func83, Try.ntmps83
        go_wp2_with (go_at_call 91; refine hget.mono ?_; rintro e w1 ⟨u, rfl, ⟨A1, c1, rfl, hc1, hu⟩, hb1⟩; have Hu := Lib.hid hu; clear hu)
        go_ret3
        exact ⟨_, rfl, hr0.below hb1, hb1⟩
      · rw [if_neg h3]
        have h3' : n ≤ (ys.length : Int) := by omega
        go_enter Try.func83, Try.ntmps83
        go_wp2_with (go_at_call 91; refine hget.mono ?_; rintro e w1 ⟨u, rfl, ⟨A1, c1, rfl, hc1, hu⟩, hb1⟩; have Hu := Lib.hid hu; clear hu)
        obtain ⟨i8, hi8, hz8, hs8, hb8⟩ := info_parts info8
        obtain ⟨ht1, ht2, ht3⟩ := print_take_of (P := Try.prog) (Value.int .u8) (0 : Int) 22 5 .u64 Try.underlying22 hi8 hs8 A1 c1 ys n hn0 h3' hc1
        obtain ⟨A2, hd1, hd2, hd3⟩ := print_drop_of (P := Try.prog) (Value.int .u8) (0 : Int) 22 5 .u64 Try.underlying22 hi8 hs8 A1 c1 ys n hn0 h3' hc1
        have Ht2 : ReadsInt w1 .u8 A1 (ys.take n.toNat).length (ys.take n.toNat) := ht2 w1 Hu.out
        have Hd2 : Hid (ReadsInt w1 .u8 A2 (ys.drop n.toNat).length (ys.drop n.toNat)) := hd2 w1 Hu.out
        have hcv := fun k => conv_bytes_string (P := Try.prog) 22 5 9 Try.underlying22 Try.underlying5 Try.underlying9 (Ht2.below (pw_below_drewN (Below.refl _ _) k)) c1
        clear hz8 hs8 hb8 hi8 ht2 hd2 Ht2
        generalize hts : ys.take n.toNat = ts at ht1 ht3 hcv
        generalize hds : ys.drop n.toNat = ds at hd1 Hd2 hd3
        have Hts := Lib.hid hts
        have Hds := Lib.hid hds
        clear hts hds
        go_quiet (fail)
        all_goals go_wp2
        go_ret3
        rw [Hts.out, Hds.out]
        exact ⟨_, rfl, ⟨A2, _, rfl, hd3, Hd2.out.below (pw_below_drewN (Below.refl _ _) _)⟩, pw_below_drewN hb1 _⟩
end Go.Proofs.Ytmdecbockpgagaa
