import Derived.Test.YteebojnabifccaaFrameMath
/- The contracts of frame.Seal and frame.Unseal. -/
namespace Go.Proofs.Yteebojnabifccaa
open Go.RowKit Go.Proofs.YteebojnabifccaaW.PrintWords Go.Proofs.YteebojnabifccaaW.PrintMore

set_option maxHeartbeats 400000 in
theorem frame_seal (k : Int) (v : Value) (xs : List Int) (w : World) (hk : 0 ≤ k ∧ k < 256) (hr : RdB w v xs) (hby : By xs) (hz : xs.length ≤ 140737488350000) :
    Calls Try.prog 29 #[.int .u8 k, v] w (NewB (frameB (k :: xs)) w) := by
  obtain ⟨A, c, rfl, hcap, hread⟩ := hr
  have hml := hread.2.1
  have Hb := Lib.hid (below_alloc (Below.refl _ w) (.cells #[.int .u8 k] 5))
  have Hr := Lib.hid (ReadsInt.below hread Hb.out)
  have Hl := Lib.hid (show (([k] : List Int).length + xs.length) * 1 ≤ 140737488355328 from by simp; omega)
  have Ho := Lib.hid (own_litB w w.heap.size [k] (Nat.le_refl _) (by simp))
  have Hby : Hid (By (k :: xs)) := Lib.hid (fun y hy => by rcases List.mem_cons.1 hy with h | h; exact h ▸ hk; exact hby y h)
  clear hread
  go_enter Try.func29, Try.ntmps29
  go_wp2_with (at_builtin; refine print_append_row (w0 := w.alloc (.cells #[.int .u8 k] 5)) w.heap.size rfl _ _ _ _ .u8 1 rfl Try.underlying22 info8 (by omega) (.slice (some ⟨w.heap.size, 0, none⟩) 1 1) [k] xs A xs.length c rfl rfl Ho.out Hr.out (Below.refl _ _) Hb.out.size Hl.out ?_; intro v4 w4 ho4 hb4 hg4 hat4)
  have hB4 := Lib.hid (Hb.out.trans hb4)
  refine (frame_frame v4 (k :: xs) w4 (OwnB.rd ho4) Hby.out (by simp; omega)).mono ?_
  rintro e w5 ⟨v5, rfl, ho5, hb5⟩
  have hB5 := Lib.hid (hB4.out.trans (hb5.mono hB4.out.size))
  have ho5' := Lib.hid (OwnB.lower ho5 hB4.out.size)
  clear ho5 hb5 ho4 hb4 hg4 hat4
  go_wp2
  go_ret
  exact ⟨_, rfl, ho5'.out, hB5.out⟩

def UnsealOk (k : Int) (bs : List Int) : Prop := NextOk bs ∧ nextR bs = [] ∧ (nextX bs).head? = some k
def UnsealP (k : Int) (bs : List Int) (w : World) (e : Ending) (w' : World) : Prop :=
  (UnsealOk k bs ∧ ∃ x, e = .returned (.tuple #[x, .int .i64 0]) ∧ RdB w' x (nextX bs).tail ∧ Below w.heap.size w w') ∨
  (¬ UnsealOk k bs ∧ e = .returned (.tuple #[.slice none 0 0, .int .i64 210]) ∧ Below w.heap.size w w')

set_option maxHeartbeats 400000 in
theorem frame_unseal (k : Int) (v : Value) (bs : List Int) (w : World) (hk : 0 ≤ k ∧ k < 256) (hr : RdB w v bs) (hby : By bs) :
    Calls Try.prog 30 #[.int .u8 k, v] w (UnsealP k bs w) := by
  go_enter Try.func30, Try.ntmps30
  go_wp2_with fail
  refine (frame_next v bs w hr hby).mono ?_
  rintro e w1 (⟨hok, x, r, rfl, hx, hrr, hb⟩ | ⟨hno, rfl, hb⟩)
  · have Hb := Lib.hid hb
    have hrx := hx.rd
    have HU : Hid (UnsealOk k bs ↔ nextR bs = [] ∧ (nextX bs).head? = some k) := Lib.hid ⟨fun h => h.2, fun h => ⟨hok, h⟩⟩
    obtain ⟨rs, hrs0⟩ : ∃ rs, nextR bs = rs := ⟨_, rfl⟩
    have hbx : By (nextX bs) := (hby.drop _).take _
    obtain ⟨xs, hxs0⟩ : ∃ xs, nextX bs = xs := ⟨_, rfl⟩
    rw [hrs0] at hrr HU
    rw [hxs0] at hrx HU hbx
    have HX := Lib.hid hxs0
    clear hrs0 hxs0
    obtain ⟨A2, c2, rfl, hc2, hr2⟩ := hrr
    obtain ⟨A, c, rfl, hc, hr1⟩ := hrx
    have hml2 := hr2.2.1
    have hml := hr1.2.1
    have Hr1 := Lib.hid hr1
    clear hx hb hok hr2
    by_cases h1 : 0 < rs.length
    · go_wp2
      go_ret2
      exact .inr ⟨fun h => absurd (HU.out.1 h).1 (by intro e; rw [e] at h1; simp at h1), rfl, Hb.out⟩
    have hrs : rs = [] := List.eq_nil_of_length_eq_zero (by omega)
    subst hrs
    have hlen : (([] : List Int)).length = 0 := rfl
    by_cases h2 : xs.length = 0
    · have hxs : xs = [] := List.eq_nil_of_length_eq_zero h2
      subst hxs
      go_wp2
      go_ret2
      exact .inr ⟨fun h => absurd (HU.out.1 h).2 (by simp), rfl, Hb.out⟩
    have hx1 : 0 < xs.length := by omega
    obtain ⟨ad, rfl, hcell⟩ := hr1.2.2 hx1
    have hc0 := hcell 0 hx1
    obtain ⟨ds, A3, c3, hds, hd1, hd2, hd3⟩ := cut_from' hc hr1 .i64 1 (by omega) (by omega)
    obtain ⟨x0, hx0⟩ : ∃ x0, xs.getD 0 0 = x0 := ⟨_, rfl⟩
    have hh : Hid (xs.head? = some x0) := Lib.hid (by rw [← hx0]; cases xs with | nil => simp at hx1 | cons a l => simp)
    have hds' : Hid (ds = xs.tail) := Lib.hid (by rw [hds]; simp [List.drop_one])
    rw [hx0] at hc0
    have hc00 : w1.cell? ad = some (.int .u8 x0) := (congrArg w1.cell? (if_pos rfl : ad.add 0 = ad)).symm.trans hc0
    have Hd2 := Lib.hid hd2
    clear hds hd2 hr1 hcell hlen hx0 hc0
    by_cases hxk : x0 = k
    · subst hxk
      go_wp2
      go_ret2
      exact .inl ⟨HU.out.2 ⟨trivial, hh.out⟩, _, rfl, by rw [HX.out, ← hds'.out]; exact Hd2.out, Hb.out⟩
    · have hne : (x0 != k) = true := by rw [bne_iff_ne]; exact hxk
      have hl0 : ((xs.length : Int) == 0) = false := by rw [beq_eq_false_iff_ne]; omega
      go_wp2
      go_ret2
      exact .inr ⟨fun h => hxk (by have := (HU.out.1 h).2; rw [hh.out] at this; exact Option.some.inj this), rfl, Hb.out⟩
  · go_wp2
    go_ret2
    exact .inr ⟨fun h => absurd h.1 hno, rfl, hb⟩
end Go.Proofs.Yteebojnabifccaa
