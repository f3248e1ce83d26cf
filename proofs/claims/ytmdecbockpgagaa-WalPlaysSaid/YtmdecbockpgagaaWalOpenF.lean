import Derived.Test.YtmdecbockpgagaaWalTornM
/- package wal: Open, whatever lies in the file. -/
namespace Go.Proofs.Ytmdecbockpgagaa
open Go.RowKit Go.Maps Go.Proofs.YtmdecbockpgagaaW.PrintWords Go.Proofs.YtmdecbockpgagaaW.PrintMore
variable {B p lb : Nat} {w0 : World} {G : DG} {d : DS} {w w' : World} {nm : Nm} {ng : Int} {br : Bool}

theorem Far.short {A : Option Addr} {n m c : Nat} (h : Far G (.slice A n c)) (hm : m ≤ n) : Far G (.slice A m c) := fun a k c2 he => by
  injection he with e1 e2 e3
  subst e1
  exact h a (n - 1) c (by rw [Nat.sub_add_cancel (by omega)])
set_option maxRecDepth 100000 in
set_option maxHeartbeats 4000000 in
theorem wal_openF (h : Dk B p w0 G d w) (hst : d.steps + 30 < 1000000000) (hn : nm.length ≤ 1000000) (hne : nm ≠ newN) (hq : -9223372036854775808 ≤ d.quota ∧ d.quota < 9223372036854775808) :
    Calls Try.prog 12 #[pv p, .string (S nm)] w (OpenP B p w0 nm G (openF nm d) (gsOf (d.read nm).2) w) := by
  have hB1 := (Below.refl w.heap.size w).alloc (Nat.le_refl _) (.cells #[pv p, .string (S nm), .int .i64 0, .bool false] 64)
  have hd1 := h.below hB1
  have hl1 : Lg (w.alloc (.cells #[pv p, .string (S nm), .int .i64 0, .bool false] 64)) w.heap.size p nm 0 false := alloc_new w _
  have hf1 : ¬ G.has w.heap.size := fun hh => by have := (h.at_.has_lt hh).2; omega
  have hlo : B ≤ w.heap.size := by have := h.at_.lo.1; have := h.at_.p_lt; omega
  have hs1 : (w.alloc (.cells #[pv p, .string (S nm), .int .i64 0, .bool false] 64)).heap.size = w.heap.size + 1 := by simp
  have HLS : Hid (Ls B p w.heap.size w0 G d nm 0 false (w.alloc (.cells #[pv p, .string (S nm), .int .i64 0, .bool false] 64))) := Lib.hid ⟨hd1, hl1, hf1, hlo⟩
  have HT1 := Lib.hid (Tr.of_below hB1 G)
  have KR := Lib.hid (k_read hd1 nm hn)
  obtain ⟨hby, hbl⟩ := read_by h nm
  obtain ⟨⟨er, bs⟩, hrd⟩ : ∃ r, d.read nm = r := ⟨_, rfl⟩
  have HRD := Lib.hid hrd
  rw [hrd] at KR hby hbl
  dsimp only at KR hby hbl
  obtain ⟨r, hr⟩ : ∃ r, openF nm d = r := ⟨_, rfl⟩
  have HOW : Hid (r = if er = 200 then freshW nm d else if er ≠ 0 then (er, d) else if endOf bs < bs.length then cutsW nm (bs.take (endOf bs)) d else keepsW nm d) := Lib.hid (by rw [← hr]; unfold openF; rw [hrd])
  rw [hr, hrd]
  dsimp only
  have KGR := Lib.hid (fun v W (ho : OwnB W (w.alloc (.cells #[pv p, .string (S nm), .int .i64 0, .bool false] 64)).heap.size v bs) => wal_groups v bs W ho.rd hby (by omega))
  have HBY := Lib.hid hby
  obtain ⟨gs, hgs⟩ : ∃ gs, gsOf bs = gs := ⟨_, rfl⟩
  have HGS := Lib.hid hgs
  rw [hgs]
  clear hB1 hd1 hl1 hf1 h hrd hr hby hgs
  go_enter Try.func12, Try.ntmps12
  go_wp2_with fail
  refine KR.out.mono ?_
  rintro e w2 ⟨v2, rfl, ho2, hd2, hb2⟩
  obtain ⟨A2, c2, rfl, -, -⟩ := ho2.rd
  have KG := Lib.hid (KGR.out _ _ ho2)
  have HL2 := Lib.hid (HLS.out.below hb2)
  have HR2 : Hid (RdB w2 (.slice A2 bs.length c2) bs) := Lib.hid ho2.rd
  have HF2 : Hid (Far G (.slice A2 bs.length c2)) := Lib.hid (Far.own (Apart.new HLS.out.dk.at_ (Nat.le_refl _) ho2))
  have HT2 := Lib.hid (HT1.out.then_below hb2)
  have hs2 := hb2.size
  clear KR KGR ho2 hd2 hb2 HLS HT1
  go_wp2_with fail
  refine KG.out.mono ?_
  rintro e w3 ⟨v3, rfl, hg3, hb3⟩
  rw [HGS.out] at hg3
  have HL3 := Lib.hid (HL2.out.below hb3)
  have HR3 : Hid (RdB w3 (.slice A2 bs.length c2) bs) := Lib.hid (RdB.below HR2.out hb3)
  have HT3 := Lib.hid (HT2.out.then_below hb3)
  have ha3 := OwnA.new HL2.out.dk.at_ (Nat.le_refl _) hg3
  obtain ⟨A3, c3, rfl⟩ := ha3.sl
  have HA3 := Lib.hid ha3
  have hbase : w.heap.size ≤ w2.heap.size := by omega
  clear KG hg3 hb3 HL2 HT2 ha3 HR2
  by_cases h200 : er = 200
  · subst h200
    have KF := Lib.hid (wal_fresh HL3.out.dk hst HL3.out.lg HL3.out.far hn)
    have hor := HOW.out
    rw [if_pos rfl] at hor
    rw [← hor] at KF
    clear hor HOW
    go_wp2_with fail
    refine KF.out.mono ?_
    rintro e w4 ⟨rfl, G4, hd4, ht4⟩
    have HL4 := Lib.hid (HL3.out.tr hd4 ht4)
    have HT4 := Lib.hid (HT3.out.trans ht4)
    have HA4 := Lib.hid (HA3.out.tr ht4)
    skip
    clear hd4 ht4 KF HL3 HT3 HA3
    obtain ⟨er4, d4⟩ := r
    by_cases he : er4 = 0
    · subst he
      have l2 : w4.cell? ⟨w.heap.size, 2, none⟩ = some (.int .i64 0) := cells_blk HL4.out.lg 2 _ rfl
      have z2 : w4.frozen? ⟨w.heap.size, 2, none⟩ = false := by unfold World.frozen?; rw [show w4.heap[w.heap.size]? = _ from HL4.out.lg]; simp
      have HL5 := Lib.hid (HL4.out.groups (gs.length : Int))
      have HT5 := Lib.hid (HT4.out.trans_set (Nat.le_refl _) (gs.length : Int))
      have HA5 := Lib.hid (HA4.out.lt HL4.out.lg (LT.set w4 G4 2 (.int .i64 (gs.length : Int))))
      go_wp2_with fail
      go_ret3
      refine .inl ⟨rfl, _, w.heap.size, G4, rfl, Nat.le_refl _, HL5.out, ?_, HT5.out⟩
      obtain ⟨us, a1, a2, a3, a4⟩ := HA5.out
      exact ⟨us, a1, own_weaken a2 hbase, a3, fun i y g hy hg => ⟨own_weaken (a4 i y g hy hg).1 hbase, (a4 i y g hy hg).2⟩⟩
    · have he' : (er4 == 0) = false := by rw [beq_eq_false_iff_ne]; exact he
      go_wp2_with fail
      go_ret3
      exact .inr ⟨he, rfl, G4, HL4.out.dk, HT4.out⟩
  · have h200' : (er == 200) = false := by rw [beq_eq_false_iff_ne]; exact h200
    by_cases h0 : er = 0
    · subst h0
      by_cases hlt : endOf bs < bs.length
      · have hltI : (endOf bs : Int) < (bs.length : Int) := by omega
        obtain ⟨at_, hat⟩ : ∃ k, endOf bs = k := ⟨_, rfl⟩
        rw [hat] at hlt hltI
        obtain ⟨A2', c2', he2, hcc2, hrr2⟩ := HR3.out
        injection he2 with e1 _ e3
        subst e1 e3
        obtain ⟨i8, hi8, hz8, hs8, hb8⟩ := info_parts info8
        obtain ⟨ht1, ht2, ht3⟩ := print_take_of (P := Try.prog) (Value.int .u8) (0 : Int) 22 5 .i64 Try.underlying22 hi8 hs8 A2 c2 bs (at_ : Int) (by omega) (by omega) hcc2
        rw [Int.toNat_natCast] at ht1 ht2 ht3
        have htl : (bs.take at_).length = at_ := by rw [List.length_take]; omega
        rw [htl] at ht1 ht2 ht3
        have KF := Lib.hid (wal_cuts HL3.out.dk (by omega) HL3.out.lg HL3.out.far hn hne (v := .slice A2 at_ c2) (xs := bs.take at_) ⟨A2, c2, by rw [htl], by rw [htl]; exact ht3, by rw [htl]; exact ht2 w3 hrr2⟩ (HBY.out.take _) (HF2.out.short (by omega)) hq)
        have hor := HOW.out
        rw [if_neg (by decide), if_neg (by decide), hat, if_pos hlt] at hor
        rw [← hor] at KF
        rw [hat]
        clear hor HOW h200 h200' hrr2 ht2 hi8 hz8 hs8 hb8 hat
        go_wp2_with fail
        refine KF.out.mono ?_
        rintro e w4 ⟨rfl, G4, hd4, ht4⟩
        have HL4 := Lib.hid (HL3.out.tr hd4 ht4)
        have HT4 := Lib.hid (HT3.out.trans ht4)
        have HA4 := Lib.hid (HA3.out.tr ht4)
        skip
        clear hd4 ht4 KF HL3 HT3 HA3
        obtain ⟨er4, d4⟩ := r
        by_cases he : er4 = 0
        · subst he
          have l2 : w4.cell? ⟨w.heap.size, 2, none⟩ = some (.int .i64 0) := cells_blk HL4.out.lg 2 _ rfl
          have z2 : w4.frozen? ⟨w.heap.size, 2, none⟩ = false := by unfold World.frozen?; rw [show w4.heap[w.heap.size]? = _ from HL4.out.lg]; simp
          have HL5 := Lib.hid (HL4.out.groups (gs.length : Int))
          have HT5 := Lib.hid (HT4.out.trans_set (Nat.le_refl _) (gs.length : Int))
          have HA5 := Lib.hid (HA4.out.lt HL4.out.lg (LT.set w4 G4 2 (.int .i64 (gs.length : Int))))
          go_wp2_with fail
          go_ret3
          refine .inl ⟨rfl, _, w.heap.size, G4, rfl, Nat.le_refl _, HL5.out, ?_, HT5.out⟩
          obtain ⟨us, a1, a2, a3, a4⟩ := HA5.out
          exact ⟨us, a1, own_weaken a2 hbase, a3, fun i y g hy hg => ⟨own_weaken (a4 i y g hy hg).1 hbase, (a4 i y g hy hg).2⟩⟩
        · have he' : (er4 == 0) = false := by rw [beq_eq_false_iff_ne]; exact he
          go_wp2_with fail
          go_ret3
          exact .inr ⟨he, rfl, G4, HL4.out.dk, HT4.out⟩
      · have KF := Lib.hid (wal_keeps HL3.out.dk (by omega) HL3.out.lg HL3.out.far hn)
        have hor := HOW.out
        rw [if_neg (by decide), if_neg (by decide), if_neg hlt] at hor
        rw [← hor] at KF
        have hltI : ¬ (endOf bs : Int) < (bs.length : Int) := by omega
        clear hor HOW h200 h200'
        go_wp2_with fail
        refine KF.out.mono ?_
        rintro e w4 ⟨rfl, G4, hd4, ht4⟩
        have HL4 := Lib.hid (HL3.out.tr hd4 ht4)
        have HT4 := Lib.hid (HT3.out.trans ht4)
        have HA4 := Lib.hid (HA3.out.tr ht4)
        skip
        clear hd4 ht4 KF HL3 HT3 HA3
        obtain ⟨er4, d4⟩ := r
        by_cases he : er4 = 0
        · subst he
          have l2 : w4.cell? ⟨w.heap.size, 2, none⟩ = some (.int .i64 0) := cells_blk HL4.out.lg 2 _ rfl
          have z2 : w4.frozen? ⟨w.heap.size, 2, none⟩ = false := by unfold World.frozen?; rw [show w4.heap[w.heap.size]? = _ from HL4.out.lg]; simp
          have HL5 := Lib.hid (HL4.out.groups (gs.length : Int))
          have HT5 := Lib.hid (HT4.out.trans_set (Nat.le_refl _) (gs.length : Int))
          have HA5 := Lib.hid (HA4.out.lt HL4.out.lg (LT.set w4 G4 2 (.int .i64 (gs.length : Int))))
          go_wp2_with fail
          go_ret3
          refine .inl ⟨rfl, _, w.heap.size, G4, rfl, Nat.le_refl _, HL5.out, ?_, HT5.out⟩
          obtain ⟨us, a1, a2, a3, a4⟩ := HA5.out
          exact ⟨us, a1, own_weaken a2 hbase, a3, fun i y g hy hg => ⟨own_weaken (a4 i y g hy hg).1 hbase, (a4 i y g hy hg).2⟩⟩
        · have he' : (er4 == 0) = false := by rw [beq_eq_false_iff_ne]; exact he
          go_wp2_with fail
          go_ret3
          exact .inr ⟨he, rfl, G4, HL4.out.dk, HT4.out⟩
    · have h0' : (er == 0) = false := by rw [beq_eq_false_iff_ne]; exact h0
      have hor := HOW.out
      rw [if_neg h200, if_pos h0] at hor
      subst hor
      go_wp2_with fail
      go_ret3
      exact .inr ⟨h0, rfl, G, HL3.out.dk, HT3.out⟩
end Go.Proofs.Ytmdecbockpgagaa
