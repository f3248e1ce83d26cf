import Derived.Test.YtmdecbockpgagaaCrcAll
import Derived.Test.YtmdecbockpgagaaHeld2
import Derived.Lib.LazyBuf
import Derived.Deep.RegionHeld3
/- The contracts of package frame: a frame of bytes, a copy. -/
namespace Go.Proofs.Ytmdecbockpgagaa
open Go.RowKit Go.Proofs.YtmdecbockpgagaaW.PrintWords Go.Proofs.YtmdecbockpgagaaW.PrintMore

/-- a length, a sum, the bytes -/
def frameB (xs : List Int) : List Int := le (xs.length : Int) 4 ++ le ((crcMore 0#32 (le (xs.length : Int) 4 ++ xs)).toNat : Int) 4 ++ xs

/-- What makes new memory and hands back bytes. -/
def NewB (ys : List Int) (w : World) (e : Ending) (w' : World) : Prop := ∃ v, e = .returned v ∧ OwnB w' w.heap.size v ys ∧ Below w.heap.size w w'

theorem crc_two (l xs : List Int) : crcMore (crcMore 0#32 l) xs = crcMore 0#32 (l ++ xs) := by
  unfold crcMore
  rw [BitVec.not_not, ← List.foldl_append]

set_option maxHeartbeats 400000 in
theorem frame_frame (v : Value) (xs : List Int) (w : World) (hr : RdB w v xs) (hby : By xs) (hz : xs.length ≤ 140737488351232) :
    Calls Try.prog 49 #[v] w (NewB (frameB xs) w) := by
  have hr0 := Lib.hid hr
  obtain ⟨A, c, rfl, hcap, hread⟩ := hr
  have hml := hread.2.1
  clear hread
  have hxl : (xs.length : Int) < 18446744073709551616 := by omega
  go_enter Try.func49, Try.ntmps49
  go_wp2_with fail
  have hp1 := crc_put w.heap.size (.slice none 0 0) [] (xs.length : Int) 4 w (OwnB.nil _ _) (Nat.le_refl _) (by simp)
  rw [show (crcW 4).toNat = 4 from rfl, List.nil_append] at hp1
  refine hp1.mono ?_
  rintro e w1 ⟨v1, rfl, ho1, hg1, _⟩
  have Hb1 := Lib.hid (below_of_grown hg1)
  obtain ⟨l4, hl4⟩ : ∃ l4, le (xs.length : Int) 4 = l4 := ⟨_, rfl⟩
  have hl4l : l4.length = 4 := by rw [← hl4, le_length]
  have hl4b : By l4 := by rw [← hl4]; exact le_by _ _
  rw [hl4] at ho1
  have Ho1 := Lib.hid ho1
  have Hl4l := Lib.hid hl4l
  have Hl4 := Lib.hid hl4
  clear hp1 hg1 ho1 hl4 hl4l
  go_wp2_with fail
  refine (crc_sum v1 l4 w1 Ho1.out.rd hl4b).mono ?_
  rintro e w2 ⟨rfl, rfl⟩
  go_wp2_with fail
  have hm := crc_more (crcMore 0#32 l4) (.slice A xs.length c) xs w1 (hr0.out.below Hb1.out) hby
  rw [crc_two] at hm
  refine hm.mono ?_
  rintro e w2 ⟨rfl, rfl⟩
  clear hm
  have hsl := (crcMore 0#32 (l4 ++ xs)).isLt
  obtain ⟨sm, hsm⟩ : ∃ sm, ((crcMore 0#32 (l4 ++ xs)).toNat : Int) = sm := ⟨_, rfl⟩
  rw [hsm]
  have hs0 : 0 ≤ sm := by omega
  have hs1 : sm < 4294967296 := by omega
  have Hsm := Lib.hid hsm
  clear hsm hsl
  go_wp2_with fail
  have hp2 := crc_put w.heap.size v1 l4 sm 4 w1 Ho1.out Hb1.out.size (by rw [Hl4l.out]; omega)
  rw [show (crcW 4).toNat = 4 from rfl] at hp2
  refine hp2.mono ?_
  rintro e w3 ⟨v3, rfl, ho3, hg3, hn3⟩
  have Hb3 := Lib.hid (Hb1.out.trans (below_of_own hg3 Ho1.out Hb1.out.size))
  have Hx3 := Lib.hid (hr0.out.below Hb3.out)
  have Hl3 := Lib.hid (show ((l4 ++ le sm 4).length + xs.length) * 1 ≤ 140737488355328 from by rw [List.length_append, le_length, Hl4l.out]; omega)
  obtain ⟨A', c', he', hc', hr'⟩ := Hx3.out
  injection he' with e1 e2 e3
  subst e1; subst e3
  have Hr' := Lib.hid hr'
  clear hp2 hg3 hn3 e2 hr' hc'
  go_wp2_with (at_builtin; refine print_append_row (w0 := w3) w.heap.size rfl _ _ _ _ .u8 1 rfl Try.underlying22 info8 (by omega) v3 (l4 ++ le sm 4) xs A xs.length c rfl rfl ho3 Hr'.out (Below.refl _ _) Hb3.out.size Hl3.out ?_; intro v4 w4 ho4 hb4 hg4 hat4)
  go_ret
  refine ⟨_, rfl, ?_, Hb3.out.trans hb4⟩
  unfold frameB
  rw [Hl4.out, Hsm.out]
  exact ho4

set_option maxHeartbeats 400000 in
theorem clone_row (v : Value) (xs : List Int) (w : World) (hr : RdB w v xs) (hz : xs.length ≤ 140737488351232) :
    Calls Try.prog 42 #[v] w (NewB xs w) := by
  obtain ⟨A, c, rfl, hcap, hread⟩ := hr
  have hml := hread.2.1
  have hnil := fun (W : World) (a : Option Addr) (n c : Nat) => Lib.run_eql_slice_nil (P := Try.prog) W 22 5 a n c 0 0 Try.underlying22
  rcases A with _ | ad
  · have h0 : xs = [] := by
      rcases Nat.eq_zero_or_pos xs.length with h0 | h0
      · exact List.eq_nil_of_length_eq_zero h0
      · obtain ⟨ad, h, _⟩ := hread.2.2 h0
        cases h
    subst h0
    clear hread
    go_enter Try.func42, Try.ntmps42
    go_wp2
    go_ret
    exact ⟨_, rfl, OwnB.nil _ _, Below.refl _ _⟩
  · have Hr := Lib.hid (ReadsInt.below hread (below_alloc (Below.refl _ _) (.cells #[] 5)))
    have Hl := Lib.hid (show (([] : List Int).length + xs.length) * 1 ≤ 140737488355328 from by simp; omega)
    have Ho := Lib.hid (own_litB w w.heap.size [] (Nat.le_refl _) (by simp))
    have Hb := Lib.hid (below_alloc (Below.refl _ w) (.cells #[] 5))
    clear hread
    go_enter Try.func42, Try.ntmps42
    go_wp2_with (at_builtin; refine print_append_row (w0 := w) w.heap.size rfl _ _ _ _ .u8 1 rfl Try.underlying22 info8 (by omega) (.slice (some ⟨w.heap.size, 0, none⟩) 0 0) [] xs (some ad) xs.length c rfl rfl Ho.out Hr.out Hb.out Hb.out.size Hl.out ?_; intro v4 w4 ho4 hb4 hg4 hat4)
    go_ret
    exact ⟨_, rfl, by rw [List.nil_append] at ho4; exact ho4, hb4⟩
end Go.Proofs.Ytmdecbockpgagaa

/- The contract of frame.Next. -/
namespace Go.Proofs.Ytmdecbockpgagaa
open Go.RowKit Go.Proofs.YtmdecbockpgagaaW.PrintWords Go.Proofs.YtmdecbockpgagaaW.PrintMore

def nextX (bs : List Int) : List Int := (bs.drop 8).take (val (bs.take 4)).toNat
def nextR (bs : List Int) : List Int := (bs.drop 8).drop (val (bs.take 4)).toNat
def NextOk (bs : List Int) : Prop := 8 ≤ bs.length ∧ val (bs.take 4) ≤ 400000 ∧ val (bs.take 4) + 8 ≤ bs.length ∧ ((crcMore 0#32 (bs.take 4 ++ nextX bs)).toNat : Int) = val ((bs.drop 4).take 4)
def NextP (v : Value) (bs : List Int) (w : World) (e : Ending) (w' : World) : Prop :=
  (NextOk bs ∧ ∃ x r, e = .returned (.tuple #[x, r, .int .i64 0]) ∧ OwnB w' w.heap.size x (nextX bs) ∧ RdB w' r (nextR bs) ∧ Below w.heap.size w w') ∨
  (¬ NextOk bs ∧ e = .returned (.tuple #[.slice none 0 0, v, .int .i64 210]) ∧ Below w.heap.size w w')

def NextT (v : Value) (bs : List Int) (w : World) (e : Ending) (w' : World) : Prop :=
  (NextOk bs ∧ ∃ x r, e = .returned (.tuple #[x, r, .int .i64 0]) ∧ OwnB w' w.heap.size x (nextX bs) ∧ RdB w' r (nextR bs) ∧ Below w.heap.size w w' ∧ RdTr v bs r (nextR bs)) ∨
  (¬ NextOk bs ∧ e = .returned (.tuple #[.slice none 0 0, v, .int .i64 210]) ∧ Below w.heap.size w w')

set_option maxHeartbeats 400000 in
set_option maxRecDepth 100000 in
theorem frame_nextT (v : Value) (bs : List Int) (w : World) (hr : RdB w v bs) (hby : By bs) :
    Calls Try.prog 90 #[v] w (NextT v bs w) := by
  have hr0 := Lib.hid hr
  obtain ⟨A, c, rfl, hcap, hread⟩ := hr
  have hml := hread.2.1
  have Hr := Lib.hid hread
  clear hread
  have hw4 : crcW 4 = 4 := by decide
  go_enter Try.func90, Try.ntmps90
  go_wp2_with fail
  refine (crc_getT (.slice A bs.length c) bs 4 w hr0.out hby).mono ?_
  rintro e w1 ⟨u1, rfl, hu1, hb1, hT1⟩
  by_cases h4 : bs.length < 4
  · have hg : getN bs 4 = (0, bs, 10) := by unfold getN; rw [hw4]; exact if_pos (by omega)
    rw [hg] at hu1 ⊢
    have Hu1 := Lib.hid hu1
    have Hb1 := Lib.hid hb1
    clear hu1 hb1 hg
    go_wp2_with fail
    refine (crc_get u1 bs 4 w1 Hu1.out hby).mono ?_
    rintro e w2 ⟨u2, rfl, hu2, hb2⟩
    have Hb2 := Lib.hid (Hb1.out.trans (hb2.mono Hb1.out.size))
    clear hb2 hu2
    go_wp2
    go_ret3
    exact .inr ⟨fun h => absurd h.1 (by omega), rfl, Hb2.out⟩
  have hg : getN bs 4 = (val (bs.take 4), bs.drop 4, 0) := by unfold getN; rw [hw4]; exact if_neg (by omega)
  rw [hg] at hu1 hT1 ⊢
  obtain ⟨n, hn⟩ : ∃ n, val (bs.take 4) = n := ⟨_, rfl⟩
  have hnb : 0 ≤ n ∧ n < 4294967296 := by
    have h1 := val_bd (bs.take 4) (hby.take 4)
    rw [hn, List.length_take, Nat.min_eq_left (by omega)] at h1
    exact ⟨h1.1, by simpa using h1.2⟩
  obtain ⟨hn0, hn1⟩ := hnb
  rw [hn]
  have Hu1 := Lib.hid hu1
  have Hb1 := Lib.hid hb1
  clear hu1 hb1 hg
  go_wp2_with fail
  refine (crc_getT u1 (bs.drop 4) 4 w1 Hu1.out (hby.drop 4)).mono ?_
  rintro e w2 ⟨u2, rfl, hu2, hb2, hT2⟩
  have Hb2 := Lib.hid (Hb1.out.trans (hb2.mono Hb1.out.size))
  clear hb2
  by_cases h8 : bs.length < 8
  · have hg : getN (bs.drop 4) 4 = (0, bs.drop 4, 10) := by unfold getN; rw [hw4]; exact if_pos (by rw [List.length_drop]; omega)
    rw [hg]
    clear hu2 hg
    go_wp2
    go_ret3
    exact .inr ⟨fun h => absurd h.1 (by omega), rfl, Hb2.out⟩
  have hg : getN (bs.drop 4) 4 = (val ((bs.drop 4).take 4), bs.drop 8, 0) := by unfold getN; rw [hw4, if_neg (by rw [List.length_drop]; omega)]; rw [show (4 : Int).toNat = 4 from rfl, List.drop_drop]
  rw [hg] at hu2 hT2 ⊢
  obtain ⟨s, hs⟩ : ∃ s, val ((bs.drop 4).take 4) = s := ⟨_, rfl⟩
  have hsb : 0 ≤ s ∧ s < 4294967296 := by
    have h1 := val_bd ((bs.drop 4).take 4) ((hby.drop 4).take 4)
    rw [hs, List.length_take, List.length_drop, Nat.min_eq_left (by omega)] at h1
    exact ⟨h1.1, by simpa using h1.2⟩
  obtain ⟨hs0, hs1⟩ := hsb
  rw [hs]
  clear hg
  obtain ⟨rs, hrs⟩ : ∃ rs, bs.drop 8 = rs := ⟨_, rfl⟩
  have hrl : (rs.length : Int) = bs.length - 8 := by rw [← hrs, List.length_drop]; omega
  dsimp only at hu2 hT1 hT2
  rw [hrs] at hu2 hT2 ⊢
  have hbr : By rs := by rw [← hrs]; exact hby.drop 8
  obtain ⟨A2, c2, rfl, hc2, hr2⟩ := hu2
  have hml2 := hr2.2.1
  have HOK : Hid (NextOk bs ↔ (n ≤ 400000 ∧ n ≤ rs.length ∧ ((crcMore 0#32 (bs.take 4 ++ rs.take n.toNat)).toNat : Int) = s)) := Lib.hid (by
    unfold NextOk nextX; rw [hn, hs, hrs]
    exact ⟨fun ⟨_, a, b, d⟩ => ⟨a, by omega, d⟩, fun ⟨a, b, d⟩ => ⟨by omega, a, by omega, d⟩⟩)
  by_cases hbig : 400000 < n
  · go_wp2
    go_ret3
    exact .inr ⟨fun h => absurd (HOK.out.1 h).1 (by omega), rfl, Hb2.out⟩
  by_cases hlong : (rs.length : Int) < n
  · go_wp2
    go_ret3
    exact .inr ⟨fun h => absurd (HOK.out.1 h).2.1 (by omega), rfl, Hb2.out⟩
  have hrb := Hr.out.below Hb2.out
  obtain ⟨ts, hts, ht1, ht2, ht3⟩ := cut_to hcap hrb .i64 4 (by omega) (by omega)
  obtain ⟨xs, hxs, hx1, hx2, hx3⟩ := cut_to hc2 hr2 .u64 n (by omega) (by omega)
  obtain ⟨ds, A3, c3, hds, hd1, hdT, hd3⟩ := cut_fromT hc2 .u64 n (by omega) (by omega)
  have hd2 := hdT w2 hr2
  have HT := Lib.hid (p := RdTr (.slice A bs.length c) bs (.slice A3 ds.length c3) ds) (fun W h => by
    obtain ⟨A', c', e, _, h'⟩ := hT2 W (hT1 W h)
    cases e
    exact hdT W h')
  clear hdT hT1 hT2
  have htb : By ts := by rw [hts]; exact hby.take _
  have hxb : By xs := by rw [hxs]; exact hbr.take _
  obtain ⟨sm, hsm⟩ : ∃ sm, ((crcMore (crcMore 0#32 ts) xs).toNat : Int) = sm := ⟨_, rfl⟩
  have hsl := (crcMore (crcMore 0#32 ts) xs).isLt
  have hs2 : 0 ≤ sm := by omega
  have hs3 : sm < 4294967296 := by omega
  have HOK2 : Hid (NextOk bs ↔ sm = s) := Lib.hid (by
    rw [HOK.out, ← hsm, crc_two, hts, hxs]
    exact ⟨fun ⟨_, _, d⟩ => d, fun d => ⟨by omega, by omega, d⟩⟩)
  have q1 := Lib.hid (crc_sum_q (.slice A ts.length c) ts _ rfl w2 ht2 htb)
  have q2 := Lib.hid (crc_more_q (crcMore 0#32 ts) (.slice A2 xs.length c2) xs sm hsm w2 hx2 hxb)
  have Hx2 := Lib.hid hx2
  have Hd2 := Lib.hid hd2
  have Hd3 := Lib.hid hd3
  have Hxl : Hid (xs.length ≤ 140737488351232) := Lib.hid (by omega)
  have HX : Hid (xs = nextX bs) := Lib.hid (by rw [hxs]; unfold nextX; rw [hn, hrs])
  have HD : Hid (ds = nextR bs) := Lib.hid (by rw [hds]; unfold nextR; rw [hn, hrs])
  clear hsm hsl hts hxs hds ht2 hx2 hd2 hrb hd3
  by_cases hse : sm = s
  · subst hse
    go_wp2
    go_quiet ((first | (go_at_call 75; first | (with_reducible exact q1.out _)) | (go_at_call 74; (with_reducible exact q2.out _))))
    all_goals go_wp2_with fail
    have SS := fun W (h : Below w2.heap.size w2 W) => (⟨h, trivial⟩ : Below w2.heap.size w2 W ∧ True)
    refine wp_region_noPanic ?_
    refine wp_region_held_drew (S := fun W => Below w2.heap.size w2 W ∧ True) (by kernel_rfl) (SS _ (pw_below_drewN (Below.refl _ _) _).drew) (fun hHeld => ?_)
    refine held_take (i := 0) (v := ?_) rfl (by kernel_rfl) (by kernel_rfl) (by kernel_rfl) (fun _ _ _ h => h) (by rfl) hHeld ?y7_0 ?_
    case y7_0 => (intro w hSw; (try dsimp only at hSw); go_simp; try with_reducible rfl)
    try simp only [Act.put, List.setIfInBounds_toArray, List.set_cons_zero, List.set_cons_succ]
    refine held_take (i := 1) (v := ?_) rfl (by kernel_rfl) (by kernel_rfl) (by kernel_rfl) (fun _ _ _ h => h) (by rfl) hHeld ?y7_1 ?_
    case y7_1 => (intro w hSw; (try dsimp only at hSw); go_simp; try with_reducible rfl)
    try simp only [Act.put, List.setIfInBounds_toArray, List.set_cons_zero, List.set_cons_succ]
    refine held_take (i := 2) (v := ?_) rfl (by kernel_rfl) (by kernel_rfl) (by kernel_rfl) (fun _ _ _ h => h) (by rfl) hHeld ?y7_2 ?_
    case y7_2 => (intro w hSw; (try dsimp only at hSw); go_simp; try with_reducible rfl)
    try simp only [Act.put, List.setIfInBounds_toArray, List.set_cons_zero, List.set_cons_succ]
    refine held_take (i := 4) (v := ?_) rfl (by kernel_rfl) (by kernel_rfl) (by kernel_rfl) (fun _ _ _ h => h) (by rfl) hHeld ?y7_4 ?_
    case y7_4 => (intro w hSw; (try dsimp only at hSw); go_simp; try with_reducible rfl)
    try simp only [Act.put, List.setIfInBounds_toArray, List.set_cons_zero, List.set_cons_succ]
    refine held_take (i := 5) (v := ?_) rfl (by kernel_rfl) (by kernel_rfl) (by kernel_rfl) (fun _ _ _ h => h) (by rfl) hHeld ?y7_5 ?_
    case y7_5 => (intro w hSw; (try dsimp only at hSw); go_simp; try with_reducible rfl)
    try simp only [Act.put, List.setIfInBounds_toArray, List.set_cons_zero, List.set_cons_succ]
    refine held_take (i := 6) (v := ?_) rfl (by kernel_rfl) (by kernel_rfl) (by kernel_rfl) (fun _ _ _ h => h) (by rfl) hHeld ?y7_6 ?_
    case y7_6 => (intro w hSw; (try dsimp only at hSw); go_simp; try with_reducible rfl)
    try simp only [Act.put, List.setIfInBounds_toArray, List.set_cons_zero, List.set_cons_succ]
    refine held_one (i := 3) (by kernel_rfl) rfl (fun K hK => ?_)
    (refine step_call (by rfl) _ _ (by rfl) Try.func42 (by kernel_rfl) (by kernel_rfl) (by simp only [List.map_toArray, List.map_cons, List.map_nil]; rfl) ((clone_row _ xs _ (Hx2.out.below hHeld.1) Hxl.out).mono ?_); rintro e w3 ⟨v3, rfl, ho3, hb3⟩; have hS3 := SS _ (hHeld.1.trans (hb3.mono hHeld.1.size)); replace ho3 := OwnB.lower ho3 hHeld.1.size; refine ⟨_, rfl, ?_⟩)
    refine hK.out _ _ ?_ (fun hHeld => ?_)
    · exact hS3
    clear hK K
    try simp only [Act.put, List.setIfInBounds_toArray, List.set_cons_zero, List.set_cons_succ]
    refine held_take (i := 7) (v := ?_) rfl (by kernel_rfl) (by kernel_rfl) (by kernel_rfl) (fun _ _ _ h => h) (by rfl) hHeld ?y7_7 ?_
    case y7_7 => (intro w hSw; (try dsimp only at hSw); go_simp; try with_reducible rfl)
    try simp only [Act.put, List.setIfInBounds_toArray, List.set_cons_zero, List.set_cons_succ]
    refine held_take (i := 8) (v := ?_) rfl (by kernel_rfl) (by kernel_rfl) (by kernel_rfl) (fun _ _ _ h => h) (by rfl) hHeld ?y7_8 ?_
    case y7_8 => (intro w hSw; (try dsimp only at hSw); go_simp; try with_reducible rfl)
    try simp only [Act.put, List.setIfInBounds_toArray, List.set_cons_zero, List.set_cons_succ]
    refine held_take (i := 9) (v := ?_) rfl (by kernel_rfl) (by kernel_rfl) (by kernel_rfl) (fun _ _ _ h => h) (by rfl) hHeld ?y7_9 ?_
    case y7_9 => (intro w hSw; (try dsimp only at hSw); go_simp; try with_reducible rfl)
    try simp only [Act.put, List.setIfInBounds_toArray, List.set_cons_zero, List.set_cons_succ]
    refine wpAnyH_done (by kernel_rfl) ?_ _
    refine NoPanic.normal ?_
    go_wp2
    go_ret3
    exact .inl ⟨HOK2.out.2 trivial, v3, _, rfl, by rw [← HX.out]; exact OwnB.lower (by exact ho3) Hb2.out.size, by rw [← HD.out]; exact Hd2.out.below hHeld.1, Hb2.out.trans (hHeld.1.mono Hb2.out.size), by rw [← HD.out]; exact HT.out⟩
  · have hsf : (sm == s) = false := by rw [beq_eq_false_iff_ne]; exact hse
    go_wp2
    go_quiet ((first | (go_at_call 75; first | (with_reducible exact q1.out _)) | (go_at_call 74; (with_reducible exact q2.out _))))
    all_goals go_wp2
    go_ret3
    exact .inr ⟨fun h => absurd (HOK2.out.1 h) hse, rfl, pw_below_drewN Hb2.out _⟩

theorem frame_next (v : Value) (bs : List Int) (w : World) (hr : RdB w v bs) (hby : By bs) :
    Calls Try.prog 90 #[v] w (NextP v bs w) :=
  (frame_nextT v bs w hr hby).mono (fun _ _ h => h.imp (fun ⟨a, x, r, he, hx, hr, hb, _⟩ => ⟨a, x, r, he, hx, hr, hb⟩) id)
end Go.Proofs.Ytmdecbockpgagaa

/- Frames in plain lists: what a frame bears, a frame cut off, a frame with bytes turned. -/
namespace Go.Proofs.Ytmdecbockpgagaa
open Go.RowKit Go.Proofs.YtmdecbockpgagaaW.PrintWords Go.Proofs.YtmdecbockpgagaaW.PrintMore

theorem four_cut (xs : List Int) (i : Nat) (h : i + 4 ≤ xs.length) :
    xs = xs.take i ++ ([xs[i]'(by omega), xs[i+1]'(by omega), xs[i+2]'(by omega), xs[i+3]'(by omega)] ++ xs.drop (i + 4)) := by
  have h1 : xs.drop i = xs[i]'(by omega) :: xs.drop (i + 1) := List.drop_eq_getElem_cons (by omega)
  have h2 : xs.drop (i + 1) = xs[i+1]'(by omega) :: xs.drop (i + 2) := List.drop_eq_getElem_cons (by omega)
  have h3 : xs.drop (i + 2) = xs[i+2]'(by omega) :: xs.drop (i + 3) := List.drop_eq_getElem_cons (by omega)
  have h4 : xs.drop (i + 3) = xs[i+3]'(by omega) :: xs.drop (i + 4) := List.drop_eq_getElem_cons (by omega)
  conv => lhs; rw [← List.take_append_drop i xs, h1, h2, h3, h4]
  rfl

/-- Of bytes that differ in four places beside one another the sums differ. -/
theorem crc_window (s : BitVec 32) (xs ys : List Int) (hx : By xs) (hy : By ys) (hl : xs.length = ys.length) (i : Nat) (hi : i + 4 ≤ xs.length)
    (he : ∀ j, j < i ∨ i + 4 ≤ j → xs[j]? = ys[j]?) (h : crcMore s xs = crcMore s ys) : xs = ys := by
  have e1 := four_cut xs i hi
  have e2 := four_cut ys i (by omega)
  have h1 : xs.take i = ys.take i := by
    apply List.ext_getElem?
    intro j
    rw [List.getElem?_take, List.getElem?_take]
    split
    · exact he j (.inl ‹_›)
    · rfl
  have h2 : xs.drop (i + 4) = ys.drop (i + 4) := by
    apply List.ext_getElem?
    intro j
    rw [List.getElem?_drop, List.getElem?_drop]
    exact he _ (.inr (by omega))
  have hb := fun (j : Nat) (hj : j < xs.length) => hx _ (List.getElem_mem hj)
  have hb' := fun (j : Nat) (hj : j < ys.length) => hy _ (List.getElem_mem hj)
  rw [e1, e2, h1, h2] at h
  obtain ⟨a, b, c, d⟩ := crc_burst (ys.take i) (ys.drop (i + 4)) _ _ _ _ _ _ _ _ (hb i (by omega)) (hb (i+1) (by omega)) (hb (i+2) (by omega)) (hb (i+3) (by omega))
    (hb' i (by omega)) (hb' (i+1) (by omega)) (hb' (i+2) (by omega)) (hb' (i+3) (by omega)) s h
  rw [e1, e2, h1, h2, a, b, c, d]

theorem val_inj : ∀ (xs ys : List Int), By xs → By ys → xs.length = ys.length → val xs = val ys → xs = ys := by
  intro xs
  induction xs with
  | nil => intro ys _ _ hl _; exact (List.eq_nil_of_length_eq_zero hl.symm).symm
  | cons x xs ih =>
    intro ys hx hy hl hv
    cases ys with
    | nil => simp at hl
    | cons y ys =>
      have a := hx x (by simp)
      have b := hy y (by simp)
      simp only [val] at hv
      have e : x = y := by omega
      subst e
      rw [ih ys (fun z hz => hx z (by simp [hz])) (fun z hz => hy z (by simp [hz])) (by simpa using hl) (by omega)]

theorem parts_take (l s t : List Int) (hl : l.length = 4) : (l ++ (s ++ t)).take 4 = l := by
  rw [List.take_append_of_le_length (by omega), List.take_of_length_le (by omega)]
theorem parts_mid (l s t : List Int) (hl : l.length = 4) (hs : s.length = 4) : ((l ++ (s ++ t)).drop 4).take 4 = s := by
  rw [List.drop_append_of_le_length (by omega), List.drop_of_length_le (by omega), List.nil_append, List.take_append_of_le_length (by omega), List.take_of_length_le (by omega)]
theorem parts_drop (l s t : List Int) (hl : l.length = 4) (hs : s.length = 4) : (l ++ (s ++ t)).drop 8 = t := by
  rw [← List.append_assoc, List.drop_append_of_le_length (by rw [List.length_append]; omega), List.drop_of_length_le (by rw [List.length_append]; omega), List.nil_append]
theorem nextX_parts (l s t : List Int) (hl : l.length = 4) (hs : s.length = 4) : nextX (l ++ (s ++ t)) = t.take (val l).toNat := by
  unfold nextX; rw [parts_take _ _ _ hl, parts_drop _ _ _ hl hs]
theorem nextR_parts (l s t : List Int) (hl : l.length = 4) (hs : s.length = 4) : nextR (l ++ (s ++ t)) = t.drop (val l).toNat := by
  unfold nextR; rw [parts_take _ _ _ hl, parts_drop _ _ _ hl hs]
theorem nextOk_parts (l s t : List Int) (hl : l.length = 4) (hs : s.length = 4) :
    NextOk (l ++ (s ++ t)) ↔ val l ≤ 400000 ∧ val l ≤ t.length ∧ ((crcMore 0#32 (l ++ t.take (val l).toNat)).toNat : Int) = val s := by
  unfold NextOk
  rw [nextX_parts _ _ _ hl hs, parts_take _ _ _ hl, parts_mid _ _ _ hl hs]
  simp only [List.length_append, hl, hs]
  constructor
  · rintro ⟨_, a, b, c⟩; exact ⟨a, by omega, c⟩
  · rintro ⟨a, b, c⟩; exact ⟨by omega, a, by omega, c⟩

theorem frameB_parts (xs t : List Int) : frameB xs ++ t = le (xs.length : Int) 4 ++ (le ((crcMore 0#32 (le (xs.length : Int) 4 ++ xs)).toNat : Int) 4 ++ (xs ++ t)) := by
  unfold frameB; simp only [List.append_assoc]
theorem frameB_parts' (xs : List Int) : frameB xs = le (xs.length : Int) 4 ++ (le ((crcMore 0#32 (le (xs.length : Int) 4 ++ xs)).toNat : Int) 4 ++ xs) := by
  unfold frameB; simp only [List.append_assoc]
theorem frameB_length (xs : List Int) : (frameB xs).length = xs.length + 8 := by
  rw [frameB_parts']; simp only [List.length_append, le_length]; omega
theorem frameB_by (xs : List Int) (h : By xs) : By (frameB xs) := ((le_by _ _).append (le_by _ _)).append h
theorem val_len (n : Nat) (h : n ≤ 400000) : val (le (n : Int) 4) = n := by
  rw [val_le, show (2 : Int) ^ (8 * 4) = 4294967296 from by decide]; omega
theorem val_sum (r : BitVec 32) : val (le (r.toNat : Int) 4) = r.toNat := by
  have := r.isLt
  rw [val_le, show (2 : Int) ^ (8 * 4) = 4294967296 from by decide]; omega

theorem frame_ok (xs t : List Int) (h : xs.length ≤ 400000) : NextOk (frameB xs ++ t) ∧ nextX (frameB xs ++ t) = xs ∧ nextR (frameB xs ++ t) = t := by
  rw [frameB_parts]
  rw [nextOk_parts _ _ _ (le_length _ _) (le_length _ _), nextX_parts _ _ _ (le_length _ _) (le_length _ _), nextR_parts _ _ _ (le_length _ _) (le_length _ _)]
  rw [val_len _ h, val_sum, Int.toNat_natCast, List.take_append_of_le_length (by omega), List.take_of_length_le (by omega), List.drop_append_of_le_length (by omega), List.drop_of_length_le (by omega)]
  exact ⟨⟨by omega, by rw [List.length_append]; omega, rfl⟩, rfl, rfl⟩

/-- A frame cut off is none. -/
theorem frame_cut (xs t : List Int) (h : xs.length ≤ 400000) (k : Nat) (hk : k < xs.length + 8) : ¬ NextOk ((frameB xs ++ t).take k) := by
  intro hn
  have h8 := hn.1
  rw [List.length_take] at h8
  have h9 := hn.2.2.1
  rw [List.take_take, Nat.min_eq_left (by omega), frameB_parts, parts_take _ _ _ (le_length _ _), val_len _ h, ← frameB_parts, List.length_take] at h9
  omega
theorem short_bad (bs : List Int) (h : bs.length < 8) : ¬ NextOk bs := fun hn => absurd hn.1 (by omega)

/-- A frame some of whose four bytes beside one another were turned, its length as it was: none. -/
theorem frame_turned (xs ys : List Int) (hx : By xs) (hy : By ys) (h : xs.length ≤ 400000) (hl : xs.length = ys.length) (i : Nat) (hi : i ≤ xs.length)
    (he : ∀ j, j + 4 < i ∨ i ≤ j → xs[j]? = ys[j]?) (hne : xs ≠ ys) (s : List Int) (hs : s = le ((crcMore 0#32 (le (xs.length : Int) 4 ++ xs)).toNat : Int) 4) :
    ¬ NextOk (le (xs.length : Int) 4 ++ (s ++ ys)) := by
  subst hs
  rw [nextOk_parts _ _ _ (le_length _ _) (le_length _ _), val_len _ h, val_sum, Int.toNat_natCast, List.take_of_length_le (by omega)]
  rintro ⟨_, _, hc⟩
  apply hne
  have hc' : crcMore 0#32 (le (xs.length : Int) 4 ++ ys) = crcMore 0#32 (le (xs.length : Int) 4 ++ xs) := BitVec.eq_of_toNat_eq (by exact_mod_cast hc)
  have := crc_window 0#32 _ _ ((le_by _ _).append hx) ((le_by _ _).append hy) (by simp only [List.length_append]; omega) i (by simp only [List.length_append, le_length]; omega) (fun j hj => ?_) hc'.symm
  · exact List.append_cancel_left this
  · rcases Nat.lt_or_ge j 4 with h4 | h4
    · rw [List.getElem?_append_left (by rw [le_length]; omega), List.getElem?_append_left (by rw [le_length]; omega)]
    · rw [List.getElem?_append_right (by rw [le_length]; omega), List.getElem?_append_right (by rw [le_length]; omega)]
      rw [le_length]
      refine he _ ?_
      omega
end Go.Proofs.Ytmdecbockpgagaa
