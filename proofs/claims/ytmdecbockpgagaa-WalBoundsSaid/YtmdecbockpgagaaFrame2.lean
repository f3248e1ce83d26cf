import Derived.Test.YtmdecbockpgagaaFrame
import Derived.Deep.RegionHeld3
/- The contract of frame.Next. -/
namespace Go.Proofs.Ytmdecbockpgagaa
open Go.RowKit Go.Proofs.YtmdecbockpgagaaW.PrintWords Go.Proofs.YtmdecbockpgagaaW.PrintMore

def nextX (bs : List Int) : List Int := (bs.drop 8).take (val (bs.take 4)).toNat
def nextR (bs : List Int) : List Int := (bs.drop 8).drop (val (bs.take 4)).toNat
def NextOk (bs : List Int) : Prop := 8 ≤ bs.length ∧ val (bs.take 4) ≤ 400000 ∧ val (bs.take 4) + 8 ≤ bs.length ∧ ((crcMore 0#32 (bs.take 4 ++ nextX bs)).toNat : Int) = val ((bs.drop 4).take 4)
def NextP (v : Value) (bs : List Int) (w : World) (e : Ending) (w' : World) : Prop :=
  (NextOk bs ∧ ∃ x r, e = .returned (.tuple #[x, r, .int .i64 0]) ∧ OwnB w' w.heap.size x (nextX bs) ∧ RdB w' r (nextR bs) ∧ Below w.heap.size w w') ∨
  (¬ NextOk bs ∧ e = .returned (.tuple #[.slice none 0 0, v, .int .i64 210]) ∧ Below w.heap.size w w')

def NextT (v : Value) (bs : List Int) (w : World) (e : Ending) (w' : World) : Prop :=
  (NextOk bs ∧ ∃ x r, e = .returned (.tuple #[x, r, .int .i64 0]) ∧ OwnB w' w.heap.size x (nextX bs) ∧ RdB w' r (nextR bs) ∧ Below w.heap.size w w' ∧ RdTr v bs r (nextR bs)) ∨
  (¬ NextOk bs ∧ e = .returned (.tuple #[.slice none 0 0, v, .int .i64 210]) ∧ Below w.heap.size w w')

set_option maxHeartbeats 400000 in
set_option maxRecDepth 100000 in
theorem frame_nextT (v : Value) (bs : List Int) (w : World) (hr : RdB w v bs) (hby : By bs) :
    Calls Try.prog 90 #[v] w (NextT v bs w) := by
  have hr0 := Lib.hid hr
  obtain ⟨A, c, rfl, hcap, hread⟩ := hr
  have hml := hread.2.1
  have Hr := Lib.hid hread
  clear hread
  have hw4 : crcW 4 = 4 := by decide
  go_enter Try.func90, Try.ntmps90
  go_wp2_with fail
  refine (crc_getT (.slice A bs.length c) bs 4 w hr0.out hby).mono ?_
  rintro e w1 ⟨u1, rfl, hu1, hb1, hT1⟩
  by_cases h4 : bs.length < 4
  · have hg : getN bs 4 = (0, bs, 10) := by unfold getN; rw [hw4]; exact if_pos (by omega)
    rw [hg] at hu1 ⊢
    have Hu1 := Lib.hid hu1
    have Hb1 := Lib.hid hb1
    clear hu1 hb1 hg
    go_wp2_with fail
    refine (crc_get u1 bs 4 w1 Hu1.out hby).mono ?_
    rintro e w2 ⟨u2, rfl, hu2, hb2⟩
    have Hb2 := Lib.hid (Hb1.out.trans (hb2.mono Hb1.out.size))
    clear hb2 hu2
    go_wp2
    go_ret3
    exact .inr ⟨fun h => absurd h.1 (by omega), rfl, Hb2.out⟩
  have hg : getN bs 4 = (val (bs.take 4), bs.drop 4, 0) := by unfold getN; rw [hw4]; exact if_neg (by omega)
  rw [hg] at hu1 hT1 ⊢
  obtain ⟨n, hn⟩ : ∃ n, val (bs.take 4) = n := ⟨_, rfl⟩
  have hnb : 0 ≤ n ∧ n < 4294967296 := by
    have h1 := val_bd (bs.take 4) (hby.take 4)
    rw [hn, List.length_take, Nat.min_eq_left (by omega)] at h1
    exact ⟨h1.1, by simpa using h1.2⟩
  obtain ⟨hn0, hn1⟩ := hnb
  rw [hn]
  have Hu1 := Lib.hid hu1
  have Hb1 := Lib.hid hb1
  clear hu1 hb1 hg
  go_wp2_with fail
  refine (crc_getT u1 (bs.drop 4) 4 w1 Hu1.out (hby.drop 4)).mono ?_
  rintro e w2 ⟨u2, rfl, hu2, hb2, hT2⟩
  have Hb2 := Lib.hid (Hb1.out.trans (hb2.mono Hb1.out.size))
  clear hb2
  by_cases h8 : bs.length < 8
  · have hg : getN (bs.drop 4) 4 = (0, bs.drop 4, 10) := by unfold getN; rw [hw4]; exact if_pos (by rw [List.length_drop]; omega)
    rw [hg]
    clear hu2 hg
    go_wp2
    go_ret3
    exact .inr ⟨fun h => absurd h.1 (by omega), rfl, Hb2.out⟩
  have hg : getN (bs.drop 4) 4 = (val ((bs.drop 4).take 4), bs.drop 8, 0) := by unfold getN; rw [hw4, if_neg (by rw [List.length_drop]; omega)]; rw [show (4 : Int).toNat = 4 from rfl, List.drop_drop]
  rw [hg] at hu2 hT2 ⊢
  obtain ⟨s, hs⟩ : ∃ s, val ((bs.drop 4).take 4) = s := ⟨_, rfl⟩
  have hsb : 0 ≤ s ∧ s < 4294967296 := by
    have h1 := val_bd ((bs.drop 4).take 4) ((hby.drop 4).take 4)
    rw [hs, List.length_take, List.length_drop, Nat.min_eq_left (by omega)] at h1
    exact ⟨h1.1, by simpa using h1.2⟩
  obtain ⟨hs0, hs1⟩ := hsb
  rw [hs]
  clear hg
  obtain ⟨rs, hrs⟩ : ∃ rs, bs.drop 8 = rs := ⟨_, rfl⟩
  have hrl : (rs.length : Int) = bs.length - 8 := by rw [← hrs, List.length_drop]; omega
  dsimp only at hu2 hT1 hT2
  rw [hrs] at hu2 hT2 ⊢
  have hbr : By rs := by rw [← hrs]; exact hby.drop 8
  obtain ⟨A2, c2, rfl, hc2, hr2⟩ := hu2
  have hml2 := hr2.2.1
  have HOK : Hid (NextOk bs ↔ (n ≤ 400000 ∧ n ≤ rs.length ∧ ((crcMore 0#32 (bs.take 4 ++ rs.take n.toNat)).toNat : Int) = s)) := Lib.hid (by
    unfold NextOk nextX; rw [hn, hs, hrs]
    exact ⟨fun ⟨_, a, b, d⟩ => ⟨a, by omega, d⟩, fun ⟨a, b, d⟩ => ⟨by omega, a, by omega, d⟩⟩)
  by_cases hbig : 400000 < n
  · go_wp2
    go_ret3
    exact .inr ⟨fun h => absurd (HOK.out.1 h).1 (by omega), rfl, Hb2.out⟩
  by_cases hlong : (rs.length : Int) < n
  · go_wp2
    go_ret3
    exact .inr ⟨fun h => absurd (HOK.out.1 h).2.1 (by omega), rfl, Hb2.out⟩
  have hrb := Hr.out.below Hb2.out
  obtain ⟨ts, hts, ht1, ht2, ht3⟩ := cut_to hcap hrb .i64 4 (by omega) (by omega)
  obtain ⟨xs, hxs, hx1, hx2, hx3⟩ := cut_to hc2 hr2 .u64 n (by omega) (by omega)
  obtain ⟨ds, A3, c3, hds, hd1, hdT, hd3⟩ := cut_fromT hc2 .u64 n (by omega) (by omega)
  have hd2 := hdT w2 hr2
  have HT := Lib.hid (p := RdTr (.slice A bs.length c) bs (.slice A3 ds.length c3) ds) (fun W h => by
    obtain ⟨A', c', e, _, h'⟩ := hT2 W (hT1 W h)
    cases e
    exact hdT W h')
  clear hdT hT1 hT2
  have htb : By ts := by rw [hts]; exact hby.take _
  have hxb : By xs := by rw [hxs]; exact hbr.take _
  obtain ⟨sm, hsm⟩ : ∃ sm, ((crcMore (crcMore 0#32 ts) xs).toNat : Int) = sm := ⟨_, rfl⟩
  have hsl := (crcMore (crcMore 0#32 ts) xs).isLt
  have hs2 : 0 ≤ sm := by omega
  have hs3 : sm < 4294967296 := by omega
  have HOK2 : Hid (NextOk bs ↔ sm = s) := Lib.hid (by
    rw [HOK.out, ← hsm, crc_two, hts, hxs]
    exact ⟨fun ⟨_, _, d⟩ => d, fun d => ⟨by omega, by omega, d⟩⟩)
  have q1 := Lib.hid (crc_sum_q (.slice A ts.length c) ts _ rfl w2 ht2 htb)
  have q2 := Lib.hid (crc_more_q (crcMore 0#32 ts) (.slice A2 xs.length c2) xs sm hsm w2 hx2 hxb)
  have Hx2 := Lib.hid hx2
  have Hd2 := Lib.hid hd2
  have Hd3 := Lib.hid hd3
  have Hxl : Hid (xs.length ≤ 140737488351232) := Lib.hid (by omega)
  have HX : Hid (xs = nextX bs) := Lib.hid (by rw [hxs]; unfold nextX; rw [hn, hrs])
  have HD : Hid (ds = nextR bs) := Lib.hid (by rw [hds]; unfold nextR; rw [hn, hrs])
  clear hsm hsl hts hxs hds ht2 hx2 hd2 hrb hd3
  by_cases hse : sm = s
  · subst hse
    go_wp2
    go_quiet ((first | (go_at_call 75; first | (with_reducible exact q1.out _)) | (go_at_call 74; (with_reducible exact q2.out _))))
    all_goals go_wp2_with fail
    have SS := fun W (h : Below w2.heap.size w2 W) => (⟨h, trivial⟩ : Below w2.heap.size w2 W ∧ True)
    refine wp_region_noPanic ?_
    refine wp_region_held_drew (S := fun W => Below w2.heap.size w2 W ∧ True) (by kernel_rfl) (SS _ (pw_below_drewN (Below.refl _ _) _).drew) (fun hHeld => ?_)
    refine held_take (i := 0) (v := ?_) rfl (by kernel_rfl) (by kernel_rfl) (by kernel_rfl) (fun _ _ _ h => h) (by rfl) hHeld ?y7_0 ?_
    case y7_0 => (intro w hSw; (try dsimp only at hSw); go_simp; try with_reducible rfl)
    try simp only [Act.put, List.setIfInBounds_toArray, List.set_cons_zero, List.set_cons_succ]
    refine held_take (i := 1) (v := ?_) rfl (by kernel_rfl) (by kernel_rfl) (by kernel_rfl) (fun _ _ _ h => h) (by rfl) hHeld ?y7_1 ?_
    case y7_1 => (intro w hSw; (try dsimp only at hSw); go_simp; try with_reducible rfl)
    try simp only [Act.put, List.setIfInBounds_toArray, List.set_cons_zero, List.set_cons_succ]
    refine held_take (i := 2) (v := ?_) rfl (by kernel_rfl) (by kernel_rfl) (by kernel_rfl) (fun _ _ _ h => h) (by rfl) hHeld ?y7_2 ?_
    case y7_2 => (intro w hSw; (try dsimp only at hSw); go_simp; try with_reducible rfl)
    try simp only [Act.put, List.setIfInBounds_toArray, List.set_cons_zero, List.set_cons_succ]
    refine held_take (i := 4) (v := ?_) rfl (by kernel_rfl) (by kernel_rfl) (by kernel_rfl) (fun _ _ _ h => h) (by rfl) hHeld ?y7_4 ?_
    case y7_4 => (intro w hSw; (try dsimp only at hSw); go_simp; try with_reducible rfl)
    try simp only [Act.put, List.setIfInBounds_toArray, List.set_cons_zero, List.set_cons_succ]
    refine held_take (i := 5) (v := ?_) rfl (by kernel_rfl) (by kernel_rfl) (by kernel_rfl) (fun _ _ _ h => h) (by rfl) hHeld ?y7_5 ?_
    case y7_5 => (intro w hSw; (try dsimp only at hSw); go_simp; try with_reducible rfl)
    try simp only [Act.put, List.setIfInBounds_toArray, List.set_cons_zero, List.set_cons_succ]
    refine held_take (i := 6) (v := ?_) rfl (by kernel_rfl) (by kernel_rfl) (by kernel_rfl) (fun _ _ _ h => h) (by rfl) hHeld ?y7_6 ?_
    case y7_6 => (intro w hSw; (try dsimp only at hSw); go_simp; try with_reducible rfl)
    try simp only [Act.put, List.setIfInBounds_toArray, List.set_cons_zero, List.set_cons_succ]
    refine held_one (i := 3) (by kernel_rfl) rfl (fun K hK => ?_)
    (refine step_call (by rfl) _ _ (by rfl) Try.func42 (by kernel_rfl) (by kernel_rfl) (by simp only [List.map_toArray, List.map_cons, List.map_nil]; rfl) ((clone_row _ xs _ (Hx2.out.below hHeld.1) Hxl.out).mono ?_); rintro e w3 ⟨v3, rfl, ho3, hb3⟩; have hS3 := SS _ (hHeld.1.trans (hb3.mono hHeld.1.size)); replace ho3 := OwnB.lower ho3 hHeld.1.size; refine ⟨_, rfl, ?_⟩)
    refine hK.out _ _ ?_ (fun hHeld => ?_)
    · exact hS3
    clear hK K
    try simp only [Act.put, List.setIfInBounds_toArray, List.set_cons_zero, List.set_cons_succ]
    refine held_take (i := 7) (v := ?_) rfl (by kernel_rfl) (by kernel_rfl) (by kernel_rfl) (fun _ _ _ h => h) (by rfl) hHeld ?y7_7 ?_
    case y7_7 => (intro w hSw; (try dsimp only at hSw); go_simp; try with_reducible rfl)
    try simp only [Act.put, List.setIfInBounds_toArray, List.set_cons_zero, List.set_cons_succ]
    refine held_take (i := 8) (v := ?_) rfl (by kernel_rfl) (by kernel_rfl) (by kernel_rfl) (fun _ _ _ h => h) (by rfl) hHeld ?y7_8 ?_
    case y7_8 => (intro w hSw; (try dsimp only at hSw); go_simp; try with_reducible rfl)
    try simp only [Act.put, List.setIfInBounds_toArray, List.set_cons_zero, List.set_cons_succ]
    refine held_take (i := 9) (v := ?_) rfl (by kernel_rfl) (by kernel_rfl) (by kernel_rfl) (fun _ _ _ h => h) (by rfl) hHeld ?y7_9 ?_
    case y7_9 => (intro w hSw; (try dsimp only at hSw); go_simp; try with_reducible rfl)
    try simp only [Act.put, List.setIfInBounds_toArray, List.set_cons_zero, List.set_cons_succ]
    refine wpAnyH_done (by kernel_rfl) ?_ _
    refine NoPanic.normal ?_
    go_wp2
    go_ret3
    exact .inl ⟨HOK2.out.2 trivial, v3, _, rfl, by rw [← HX.out]; exact OwnB.lower (by exact ho3) Hb2.out.size, by rw [← HD.out]; exact Hd2.out.below hHeld.1, Hb2.out.trans (hHeld.1.mono Hb2.out.size), by rw [← HD.out]; exact HT.out⟩
  · have hsf : (sm == s) = false := by rw [beq_eq_false_iff_ne]; exact hse
    go_wp2
    go_quiet ((first | (go_at_call 75; first | (with_reducible exact q1.out _)) | (go_at_call 74; (with_reducible exact q2.out _))))
    all_goals go_wp2
    go_ret3
    exact .inr ⟨fun h => absurd (HOK2.out.1 h) hse, rfl, pw_below_drewN Hb2.out _⟩

theorem frame_next (v : Value) (bs : List Int) (w : World) (hr : RdB w v bs) (hby : By bs) :
    Calls Try.prog 90 #[v] w (NextP v bs w) :=
  (frame_nextT v bs w hr hby).mono (fun _ _ h => h.imp (fun ⟨a, x, r, he, hx, hr, hb, _⟩ => ⟨a, x, r, he, hx, hr, hb⟩) id)
end Go.Proofs.Ytmdecbockpgagaa
