import Derived.Test.YteebojnabifccaaAll
import Derived.Test.YteebojnabifccaaCrcRef2
import Derived.Test.YteebojnabifccaaCrcQ
/- The document's frames: Frame, Seal, Next, Unseal, All. -/
namespace Go.Proofs.Yteebojnabifccaa
open Go.RowKit Go.Proofs.YteebojnabifccaaW.PrintWords Go.Proofs.YteebojnabifccaaW.PrintMore

/-- xs[:j], and what is read of it in every world. -/
theorem cut_toT {A : Option Addr} {c : Nat} {xs : List Int} (hc : xs.length ≤ c) (kl : IntKind) (j : Int) (h0 : 0 ≤ j) (h1 : j ≤ xs.length) :
    ∃ ts : List Int, ts = xs.take j.toNat ∧ (∀ W : World, (Instr.slice 22 (.slice A xs.length c) none (some (.int kl j)) none).run Try.prog W = .ok (.slice A ts.length c) W) ∧ (∀ W : World, ReadsInt W .u8 A xs.length xs → RdB W (.slice A ts.length c) ts) ∧ (ts.length : Int) = j := by
  obtain ⟨i8, hi8, hz8, hs8, hb8⟩ := info_parts info8
  obtain ⟨ht1, ht2, ht3⟩ := print_take_of (P := Try.prog) (Value.int .u8) (0 : Int) 22 5 kl Try.underlying22 hi8 hs8 A c xs j h0 h1 hc
  exact ⟨_, rfl, ht1, fun W hr => ⟨A, c, rfl, ht3, ht2 W hr⟩, by rw [List.length_take]; omega⟩

set_option maxHeartbeats 400000 in
theorem ref21_frame (v : Value) (xs : List Int) (w : World) (hr : RdB w v xs) (hby : By xs) (hz : xs.length ≤ 140737488351232) :
    Calls Try.prog 36 #[v] w (NewB (frameB xs) w) := by
  have hr0 := Lib.hid hr
  obtain ⟨A, c, rfl, hcap, hread⟩ := hr
  have hml := hread.2.1
  clear hread
  have hxl : (xs.length : Int) < 18446744073709551616 := by omega
  go_enter Try.func36, Try.ntmps36
  go_wp2_with fail
  have hp1 := ref_put w.heap.size (.slice none 0 0) [] (xs.length : Int) 4 w (OwnB.nil _ _) (Nat.le_refl _) (by simp)
  rw [show (crcW 4).toNat = 4 from rfl, List.nil_append] at hp1
  refine hp1.mono ?_
  rintro e w1 ⟨v1, rfl, ho1, hg1, _⟩
  have Hb1 := Lib.hid (below_of_grown hg1)
  obtain ⟨l4, hl4⟩ : ∃ l4, le (xs.length : Int) 4 = l4 := ⟨_, rfl⟩
  have hl4l : l4.length = 4 := by rw [← hl4, le_length]
  have hl4b : By l4 := by rw [← hl4]; exact le_by _ _
  rw [hl4] at ho1
  have Ho1 := Lib.hid ho1
  have Hl4l := Lib.hid hl4l
  have Hl4 := Lib.hid hl4
  clear hp1 hg1 ho1 hl4 hl4l
  go_wp2_with fail
  refine (ref_sum v1 l4 w1 Ho1.out.rd hl4b).mono ?_
  rintro e w2 ⟨rfl, rfl⟩
  go_wp2_with fail
  have hm := ref_more (crcMore 0#32 l4) (.slice A xs.length c) xs w1 (hr0.out.below Hb1.out) hby
  rw [crc_two] at hm
  refine hm.mono ?_
  rintro e w2 ⟨rfl, rfl⟩
  clear hm
  have hsl := (crcMore 0#32 (l4 ++ xs)).isLt
  obtain ⟨sm, hsm⟩ : ∃ sm, ((crcMore 0#32 (l4 ++ xs)).toNat : Int) = sm := ⟨_, rfl⟩
  rw [hsm]
  have hs0 : 0 ≤ sm := by omega
  have hs1 : sm < 4294967296 := by omega
  have Hsm := Lib.hid hsm
  clear hsm hsl
  go_wp2_with fail
  have hp2 := ref_put w.heap.size v1 l4 sm 4 w1 Ho1.out Hb1.out.size (by rw [Hl4l.out]; omega)
  rw [show (crcW 4).toNat = 4 from rfl] at hp2
  refine hp2.mono ?_
  rintro e w3 ⟨v3, rfl, ho3, hg3, hn3⟩
  have Hb3 := Lib.hid (Hb1.out.trans (below_of_own hg3 Ho1.out Hb1.out.size))
  have Hx3 := Lib.hid (hr0.out.below Hb3.out)
  have Hl3 := Lib.hid (show ((l4 ++ le sm 4).length + xs.length) * 1 ≤ 140737488355328 from by rw [List.length_append, le_length, Hl4l.out]; omega)
  obtain ⟨A', c', he', hc', hr'⟩ := Hx3.out
  injection he' with e1 e2 e3
  subst e1; subst e3
  have Hr' := Lib.hid hr'
  clear hp2 hg3 hn3 e2 hr' hc'
  go_wp2_with (at_builtin; refine print_append_row (w0 := w3) w.heap.size rfl _ _ _ _ .u8 1 rfl Try.underlying22 info8 (by omega) v3 (l4 ++ le sm 4) xs A xs.length c rfl rfl ho3 Hr'.out (Below.refl _ _) Hb3.out.size Hl3.out ?_; intro v4 w4 ho4 hb4 hg4 hat4)
  go_ret
  refine ⟨_, rfl, ?_, Hb3.out.trans hb4⟩
  unfold frameB
  rw [Hl4.out, Hsm.out]
  exact ho4

set_option maxHeartbeats 400000 in
theorem ref21_seal (k : Int) (v : Value) (xs : List Int) (w : World) (hk : 0 ≤ k ∧ k < 256) (hr : RdB w v xs) (hby : By xs) (hz : xs.length ≤ 140737488350000) :
    Calls Try.prog 37 #[.int .u8 k, v] w (NewB (frameB (k :: xs)) w) := by
  obtain ⟨A, c, rfl, hcap, hread⟩ := hr
  have hml := hread.2.1
  have Hb := Lib.hid (below_alloc (Below.refl _ w) (.cells #[.int .u8 k] 5))
  have Hr := Lib.hid (ReadsInt.below hread Hb.out)
  have Hl := Lib.hid (show (([k] : List Int).length + xs.length) * 1 ≤ 140737488355328 from by simp; omega)
  have Ho := Lib.hid (own_litB w w.heap.size [k] (Nat.le_refl _) (by simp))
  have Hby : Hid (By (k :: xs)) := Lib.hid (fun y hy => by rcases List.mem_cons.1 hy with h | h; exact h ▸ hk; exact hby y h)
  clear hread
  go_enter Try.func37, Try.ntmps37
  go_wp2_with (at_builtin; refine print_append_row (w0 := w.alloc (.cells #[.int .u8 k] 5)) w.heap.size rfl _ _ _ _ .u8 1 rfl Try.underlying22 info8 (by omega) (.slice (some ⟨w.heap.size, 0, none⟩) 1 1) [k] xs A xs.length c rfl rfl Ho.out Hr.out (Below.refl _ _) Hb.out.size Hl.out ?_; intro v4 w4 ho4 hb4 hg4 hat4)
  have hB4 := Lib.hid (Hb.out.trans hb4)
  refine (ref21_frame v4 (k :: xs) w4 (OwnB.rd ho4) Hby.out (by simp; omega)).mono ?_
  rintro e w5 ⟨v5, rfl, ho5, hb5⟩
  have hB5 := Lib.hid (hB4.out.trans (hb5.mono hB4.out.size))
  have ho5' := Lib.hid (OwnB.lower ho5 hB4.out.size)
  clear ho5 hb5 ho4 hb4 hg4 hat4
  go_wp2
  go_ret
  exact ⟨_, rfl, ho5'.out, hB5.out⟩

def RNextT (v : Value) (bs : List Int) (w : World) (e : Ending) (w' : World) : Prop :=
  (NextOk bs ∧ ∃ x r, e = .returned (.tuple #[x, r, .bool true]) ∧ Tr v bs x (nextX bs) ∧ Tr v bs r (nextR bs) ∧ Below w.heap.size w w') ∨
  (¬ NextOk bs ∧ e = .returned (.tuple #[.slice none 0 0, v, .bool false]) ∧ Below w.heap.size w w')

set_option maxHeartbeats 400000 in
theorem ref21_next (v : Value) (bs : List Int) (w : World) (hr : RdB w v bs) (hby : By bs) :
    Calls Try.prog 33 #[v] w (RNextT v bs w) := by
  have hr0 := Lib.hid hr
  obtain ⟨A, c, rfl, hcap, hread⟩ := hr
  have hml := hread.2.1
  have Hr := Lib.hid hread
  clear hread
  have hw4 : crcW 4 = 4 := by decide
  go_enter Try.func33, Try.ntmps33
  go_wp2_with fail
  refine (ref_getT (.slice A bs.length c) bs 4 w hr0.out hby).mono ?_
  rintro e w1 ⟨u1, rfl, hu1, hb1, hT1⟩
  by_cases h4 : bs.length < 4
  · have hg : getN bs 4 = (0, bs, 10) := by unfold getN; rw [hw4]; exact if_pos (by omega)
    have hg2 : getOk bs 4 = false := by unfold getOk; rw [hw4]; simp; omega
    rw [hg, hg2]
    clear hu1 hT1 hg hg2
    go_wp2
    go_ret3
    exact .inr ⟨fun h => absurd h.1 (by omega), rfl, hb1⟩
  have hg : getN bs 4 = (val (bs.take 4), bs.drop 4, 0) := by unfold getN; rw [hw4]; exact if_neg (by omega)
  have hg2 : getOk bs 4 = true := by unfold getOk; rw [hw4]; simp; omega
  rw [hg] at hu1 hT1
  rw [hg, hg2]
  obtain ⟨n, hn⟩ : ∃ n, val (bs.take 4) = n := ⟨_, rfl⟩
  have hnb : 0 ≤ n ∧ n < 4294967296 := by
    have h1 := val_bd (bs.take 4) (hby.take 4)
    rw [hn, List.length_take, Nat.min_eq_left (by omega)] at h1
    exact ⟨h1.1, by simpa using h1.2⟩
  obtain ⟨hn0, hn1⟩ := hnb
  rw [hn]
  have Hu1 := Lib.hid hu1
  have Hb1 := Lib.hid hb1
  clear hu1 hb1 hg hg2
  go_wp2_with fail
  refine (ref_getT u1 (bs.drop 4) 4 w1 Hu1.out (hby.drop 4)).mono ?_
  rintro e w2 ⟨u2, rfl, hu2, hb2, hT2⟩
  have Hb2 := Lib.hid (Hb1.out.trans (hb2.mono Hb1.out.size))
  clear hb2
  by_cases h8 : bs.length < 8
  · have hg : getN (bs.drop 4) 4 = (0, bs.drop 4, 10) := by unfold getN; rw [hw4]; exact if_pos (by rw [List.length_drop]; omega)
    have hg2 : getOk (bs.drop 4) 4 = false := by unfold getOk; rw [hw4, List.length_drop]; simp; omega
    rw [hg, hg2]
    clear hu2 hT2 hg hg2
    go_wp2
    go_ret3
    exact .inr ⟨fun h => absurd h.1 (by omega), rfl, Hb2.out⟩
  have hg : getN (bs.drop 4) 4 = (val ((bs.drop 4).take 4), bs.drop 8, 0) := by unfold getN; rw [hw4, if_neg (by rw [List.length_drop]; omega)]; rw [show (4 : Int).toNat = 4 from rfl, List.drop_drop]
  have hg2 : getOk (bs.drop 4) 4 = true := by unfold getOk; rw [hw4, List.length_drop]; simp; omega
  rw [hg] at hu2 hT2
  rw [hg, hg2]
  obtain ⟨s, hs⟩ : ∃ s, val ((bs.drop 4).take 4) = s := ⟨_, rfl⟩
  have hsb : 0 ≤ s ∧ s < 4294967296 := by
    have h1 := val_bd ((bs.drop 4).take 4) ((hby.drop 4).take 4)
    rw [hs, List.length_take, List.length_drop, Nat.min_eq_left (by omega)] at h1
    exact ⟨h1.1, by simpa using h1.2⟩
  obtain ⟨hs0, hs1⟩ := hsb
  rw [hs]
  clear hg hg2
  obtain ⟨rs, hrs⟩ : ∃ rs, bs.drop 8 = rs := ⟨_, rfl⟩
  have hrl : (rs.length : Int) = bs.length - 8 := by rw [← hrs, List.length_drop]; omega
  dsimp only at hu2 hT1 hT2
  rw [hrs] at hu2 hT2 ⊢
  have hbr : By rs := by rw [← hrs]; exact hby.drop 8
  obtain ⟨A2, c2, rfl, hc2, hr2⟩ := hu2
  have hml2 := hr2.2.1
  have HOK : Hid (NextOk bs ↔ (n ≤ 400000 ∧ n ≤ rs.length ∧ ((crcMore 0#32 (bs.take 4 ++ rs.take n.toNat)).toNat : Int) = s)) := Lib.hid (by
    unfold NextOk nextX; rw [hn, hs, hrs]
    exact ⟨fun ⟨_, a, b, d⟩ => ⟨a, by omega, d⟩, fun ⟨a, b, d⟩ => ⟨by omega, a, by omega, d⟩⟩)
  by_cases hbig : 400000 < n
  · clear hrl
    go_wp2
    go_ret3
    exact .inr ⟨fun h => absurd (HOK.out.1 h).1 (by omega), rfl, Hb2.out⟩
  by_cases hlong : (rs.length : Int) < n
  · clear hrl
    go_wp2
    go_ret3
    exact .inr ⟨fun h => absurd (HOK.out.1 h).2.1 (by omega), rfl, Hb2.out⟩
  have hrb := Hr.out.below Hb2.out
  obtain ⟨ts, hts, ht1, ht2, ht3⟩ := cut_to hcap hrb .i64 4 (by omega) (by omega)
  obtain ⟨xs, hxs, hx1, hxT, hx3⟩ := cut_toT (A := A2) hc2 .u64 n (by omega) (by omega)
  obtain ⟨ds, A3, c3, hds, hd1, hdT, hd3⟩ := cut_fromT (A := A2) hc2 .u64 n (by omega) (by omega)
  have hx2 := hxT w2 hr2
  have htb : By ts := by rw [hts]; exact hby.take _
  have hxb : By xs := by rw [hxs]; exact hbr.take _
  have HTd : Hid (Tr (.slice A bs.length c) bs (.slice A3 ds.length c3) ds) := Lib.hid (fun W h => by
    obtain ⟨A', c', e, _, h'⟩ := hT2 W (hT1 W h)
    cases e
    exact hdT W h')
  have HTx : Hid (Tr (.slice A bs.length c) bs (.slice A2 xs.length c2) xs) := Lib.hid (fun W h => by
    obtain ⟨A', c', e, _, h'⟩ := hT2 W (hT1 W h)
    cases e
    exact hxT W h')
  obtain ⟨sm, hsm⟩ : ∃ sm, ((crcMore (crcMore 0#32 ts) xs).toNat : Int) = sm := ⟨_, rfl⟩
  have hsl := (crcMore (crcMore 0#32 ts) xs).isLt
  have hs2 : 0 ≤ sm := by omega
  have hs3 : sm < 4294967296 := by omega
  have HOK2 : Hid (NextOk bs ↔ sm = s) := Lib.hid (by
    rw [HOK.out, ← hsm, crc_two, hts, hxs]
    exact ⟨fun ⟨_, _, d⟩ => d, fun d => ⟨by omega, by omega, d⟩⟩)
  have q1 := ref_sum (.slice A ts.length c) ts w2 ht2 htb
  have q2 := ref_more (crcMore 0#32 ts) (.slice A2 xs.length c2) xs w2 hx2 hxb
  rw [hsm] at q2
  have Q1 := Lib.hid q1
  have Q2 := Lib.hid q2
  have HX : Hid (xs = nextX bs) := Lib.hid (by rw [hxs]; unfold nextX; rw [hn, hrs])
  have HD : Hid (ds = nextR bs) := Lib.hid (by rw [hds]; unfold nextR; rw [hn, hrs])
  clear hsm hsl hts hxs hds ht2 hx2 hrb hd3 q1 q2 hdT hxT hT1 hT2 hrl hr2
  go_wp2_with fail
  refine Q1.out.mono ?_
  rintro e w3 ⟨rfl, rfl⟩
  go_wp2_with fail
  refine Q2.out.mono ?_
  rintro e w3 ⟨rfl, rfl⟩
  by_cases hse : sm = s
  · subst hse
    go_wp2
    go_quiet (fail)
    all_goals go_wp2
    go_ret3
    exact .inl ⟨HOK2.out.2 trivial, _, _, rfl, by rw [← HX.out]; exact HTx.out, by rw [← HD.out]; exact HTd.out, pw_below_drewN Hb2.out _⟩
  · have hsf : (sm != s) = true := by rw [bne_iff_ne]; exact hse
    go_wp2
    go_ret3
    exact .inr ⟨fun h => absurd (HOK2.out.1 h) hse, rfl, Hb2.out⟩

def RUnsealP (k : Int) (bs : List Int) (w : World) (e : Ending) (w' : World) : Prop :=
  (UnsealOk k bs ∧ ∃ x, e = .returned (.tuple #[x, .bool true]) ∧ RdB w' x (nextX bs).tail ∧ Below w.heap.size w w') ∨
  (¬ UnsealOk k bs ∧ e = .returned (.tuple #[.slice none 0 0, .bool false]) ∧ Below w.heap.size w w')

set_option maxHeartbeats 400000 in
theorem ref21_unseal (k : Int) (v : Value) (bs : List Int) (w : World) (hk : 0 ≤ k ∧ k < 256) (hr : RdB w v bs) (hby : By bs) :
    Calls Try.prog 35 #[.int .u8 k, v] w (RUnsealP k bs w) := by
  go_enter Try.func35, Try.ntmps35
  go_wp2_with fail
  refine (ref21_next v bs w hr hby).mono ?_
  rintro e w1 (⟨hok, x, r, rfl, hTx, hTr, hb⟩ | ⟨hno, rfl, hb⟩)
  · have Hb := Lib.hid hb
    have hrx := hTx w1 (hr.below hb)
    have hrr := hTr w1 (hr.below hb)
    have HU : Hid (UnsealOk k bs ↔ nextR bs = [] ∧ (nextX bs).head? = some k) := Lib.hid ⟨fun h => h.2, fun h => ⟨hok, h⟩⟩
    obtain ⟨rs, hrs0⟩ : ∃ rs, nextR bs = rs := ⟨_, rfl⟩
    have hbx : By (nextX bs) := (hby.drop _).take _
    obtain ⟨xs, hxs0⟩ : ∃ xs, nextX bs = xs := ⟨_, rfl⟩
    rw [hrs0] at hrr HU
    rw [hxs0] at hrx HU hbx
    have HX := Lib.hid hxs0
    clear hrs0 hxs0
    obtain ⟨A2, c2, rfl, hc2, hr2⟩ := hrr
    obtain ⟨A, c, rfl, hc, hr1⟩ := hrx
    have hml2 := hr2.2.1
    have hml := hr1.2.1
    have Hr1 := Lib.hid hr1
    clear hTx hTr hb hok hr2
    by_cases h1 : 0 < rs.length
    · go_wp2
      go_ret2
      exact .inr ⟨fun h => absurd (HU.out.1 h).1 (by intro e; rw [e] at h1; simp at h1), rfl, Hb.out⟩
    have hrs : rs = [] := List.eq_nil_of_length_eq_zero (by omega)
    subst hrs
    have hlen : (([] : List Int)).length = 0 := rfl
    by_cases h2 : xs.length = 0
    · have hxs : xs = [] := List.eq_nil_of_length_eq_zero h2
      subst hxs
      go_wp2
      go_ret2
      exact .inr ⟨fun h => absurd (HU.out.1 h).2 (by simp), rfl, Hb.out⟩
    have hx1 : 0 < xs.length := by omega
    obtain ⟨ad, rfl, hcell⟩ := hr1.2.2 hx1
    have hc0 := hcell 0 hx1
    obtain ⟨ds, A3, c3, hds, hd1, hd2, hd3⟩ := cut_from' hc hr1 .i64 1 (by omega) (by omega)
    obtain ⟨x0, hx0⟩ : ∃ x0, xs.getD 0 0 = x0 := ⟨_, rfl⟩
    have hh : Hid (xs.head? = some x0) := Lib.hid (by rw [← hx0]; cases xs with | nil => simp at hx1 | cons a l => simp)
    have hds' : Hid (ds = xs.tail) := Lib.hid (by rw [hds]; simp [List.drop_one])
    rw [hx0] at hc0
    have hc00 : w1.cell? ad = some (.int .u8 x0) := (congrArg w1.cell? (if_pos rfl : ad.add 0 = ad)).symm.trans hc0
    have Hd2 := Lib.hid hd2
    clear hds hd2 hr1 hcell hlen hx0 hc0
    by_cases hxk : x0 = k
    · subst hxk
      go_wp2
      go_ret2
      exact .inl ⟨HU.out.2 ⟨trivial, hh.out⟩, _, rfl, by rw [HX.out, ← hds'.out]; exact Hd2.out, Hb.out⟩
    · have hne : (x0 != k) = true := by rw [bne_iff_ne]; exact hxk
      have hl0 : ((xs.length : Int) == 0) = false := by rw [beq_eq_false_iff_ne]; omega
      go_wp2
      go_ret2
      exact .inr ⟨fun h => hxk (by have := (HU.out.1 h).2; rw [hh.out] at this; exact Option.some.inj this), rfl, Hb.out⟩
  · go_wp2
    go_ret2
    exact .inr ⟨fun h => absurd h.1 hno, rfl, hb⟩
end Go.Proofs.Yteebojnabifccaa
