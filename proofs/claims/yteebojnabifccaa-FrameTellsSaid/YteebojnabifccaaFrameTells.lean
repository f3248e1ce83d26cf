import Derived.Test.YteebojnabifccaaFrameRef2
import Derived.Test.YteebojnabifccaaRowsMath
import Derived.Test.YteebojnabifccaaKnown21
import Derived.Test.YteebojnabifccaaHeld2
/- FrameTells: of every bytes: their frame, what they bear as frames, whether they are a sealed one. -/
namespace Go.Proofs.Yteebojnabifccaa
open Go.RowKit Go.Proofs.YteebojnabifccaaW.PrintWords Go.Proofs.YteebojnabifccaaW.PrintMore

theorem next_both {v : Value} {bs : List Int} {w w' : World} {e : Ending} (hv : RdB w v bs) (h : NextP v bs w e w') (X R : List Int) (hX : NextOk bs ∧ X = nextX bs ∧ R = nextR bs ∨ ¬ NextOk bs ∧ X = [] ∧ R = bs) (k : Int) (hk : NextOk bs ∧ k = 0 ∨ ¬ NextOk bs ∧ k = 210) :
    ∃ x r, e = .returned (.tuple #[x, r, .int .i64 k]) ∧ RdB w' x X ∧ RdB w' r R ∧ Below w.heap.size w w' := by
  rcases h with ⟨hn, x, r, rfl, hx, hr, hb⟩ | ⟨hn, rfl, hb⟩
  · rcases hX with ⟨_, rfl, rfl⟩ | ⟨h, _⟩
    · rcases hk with ⟨_, rfl⟩ | ⟨h, _⟩
      · exact ⟨x, r, rfl, hx.rd, hr, hb⟩
      · exact absurd hn h
    · exact absurd hn h
  · rcases hX with ⟨h, _⟩ | ⟨_, rfl, rfl⟩
    · exact absurd h hn
    · rcases hk with ⟨h, _⟩ | ⟨_, rfl⟩
      · exact absurd h hn
      · exact ⟨_, _, rfl, ⟨none, 0, rfl, Nat.le_refl _, rfl, by simp, fun h => absurd h (by simp)⟩, hv.below hb, hb⟩
theorem rnext_both {v : Value} {bs : List Int} {w w' : World} {e : Ending} (hv : RdB w v bs) (h : RNextT v bs w e w') (X R : List Int) (hX : NextOk bs ∧ X = nextX bs ∧ R = nextR bs ∨ ¬ NextOk bs ∧ X = [] ∧ R = bs) (b : Bool) (hk : NextOk bs ∧ b = true ∨ ¬ NextOk bs ∧ b = false) :
    ∃ x r, e = .returned (.tuple #[x, r, .bool b]) ∧ RdB w' x X ∧ RdB w' r R ∧ Below w.heap.size w w' := by
  rcases h with ⟨hn, x, r, rfl, hx, hr, hb⟩ | ⟨hn, rfl, hb⟩
  · rcases hX with ⟨_, rfl, rfl⟩ | ⟨h, _⟩
    · rcases hk with ⟨_, rfl⟩ | ⟨h, _⟩
      · exact ⟨x, r, rfl, hx _ (hv.below hb), hr _ (hv.below hb), hb⟩
      · exact absurd hn h
    · exact absurd hn h
  · rcases hX with ⟨h, _⟩ | ⟨_, rfl, rfl⟩
    · exact absurd h hn
    · rcases hk with ⟨h, _⟩ | ⟨_, rfl⟩
      · exact absurd h hn
      · exact ⟨_, _, rfl, ⟨none, 0, rfl, Nat.le_refl _, rfl, by simp, fun h => absurd h (by simp)⟩, hv.below hb, hb⟩
theorem unseal_both {k : Int} {bs : List Int} {w w' : World} {e : Ending} (h : UnsealP k bs w e w') (U : List Int) (hU : UnsealOk k bs ∧ U = (nextX bs).tail ∨ ¬ UnsealOk k bs ∧ U = []) (c : Int) (hc : UnsealOk k bs ∧ c = 0 ∨ ¬ UnsealOk k bs ∧ c = 210) :
    ∃ u, e = .returned (.tuple #[u, .int .i64 c]) ∧ RdB w' u U ∧ Below w.heap.size w w' := by
  rcases h with ⟨hn, x, rfl, hx, hb⟩ | ⟨hn, rfl, hb⟩
  · rcases hU with ⟨_, rfl⟩ | ⟨h, _⟩
    · rcases hc with ⟨_, rfl⟩ | ⟨h, _⟩
      · exact ⟨x, rfl, hx, hb⟩
      · exact absurd hn h
    · exact absurd hn h
  · rcases hU with ⟨h, _⟩ | ⟨_, rfl⟩
    · exact absurd h hn
    · rcases hc with ⟨h, _⟩ | ⟨_, rfl⟩
      · exact absurd h hn
      · exact ⟨_, rfl, ⟨none, 0, rfl, Nat.le_refl _, rfl, by simp, fun h => absurd h (by simp)⟩, hb⟩
theorem runseal_both {k : Int} {bs : List Int} {w w' : World} {e : Ending} (h : RUnsealP k bs w e w') (U : List Int) (hU : UnsealOk k bs ∧ U = (nextX bs).tail ∨ ¬ UnsealOk k bs ∧ U = []) (c : Bool) (hc : UnsealOk k bs ∧ c = true ∨ ¬ UnsealOk k bs ∧ c = false) :
    ∃ u, e = .returned (.tuple #[u, .bool c]) ∧ RdB w' u U ∧ Below w.heap.size w w' := by
  rcases h with ⟨hn, x, rfl, hx, hb⟩ | ⟨hn, rfl, hb⟩
  · rcases hU with ⟨_, rfl⟩ | ⟨h, _⟩
    · rcases hc with ⟨_, rfl⟩ | ⟨h, _⟩
      · exact ⟨x, rfl, hx, hb⟩
      · exact absurd hn h
    · exact absurd hn h
  · rcases hU with ⟨h, _⟩ | ⟨_, rfl⟩
    · exact absurd h hn
    · rcases hc with ⟨h, _⟩ | ⟨_, rfl⟩
      · exact absurd h hn
      · exact ⟨_, rfl, ⟨none, 0, rfl, Nat.le_refl _, rfl, by simp, fun h => absurd h (by simp)⟩, hb⟩
theorem both_next (bs : List Int) : ∃ (X R : List Int) (k : Int) (b : Bool), (NextOk bs ∧ X = nextX bs ∧ R = nextR bs ∨ ¬ NextOk bs ∧ X = [] ∧ R = bs) ∧ (NextOk bs ∧ k = 0 ∨ ¬ NextOk bs ∧ k = 210) ∧ (NextOk bs ∧ b = true ∨ ¬ NextOk bs ∧ b = false) ∧ (k = 0 ∧ b = true ∨ k = 210 ∧ b = false) := by
  by_cases h : NextOk bs
  · exact ⟨_, _, 0, true, .inl ⟨h, rfl, rfl⟩, .inl ⟨h, rfl⟩, .inl ⟨h, rfl⟩, .inl ⟨rfl, rfl⟩⟩
  · exact ⟨_, _, 210, false, .inr ⟨h, rfl, rfl⟩, .inr ⟨h, rfl⟩, .inr ⟨h, rfl⟩, .inr ⟨rfl, rfl⟩⟩
theorem both_unseal (k : Int) (bs : List Int) : ∃ (U : List Int) (c : Int) (b : Bool), (UnsealOk k bs ∧ U = (nextX bs).tail ∨ ¬ UnsealOk k bs ∧ U = []) ∧ (UnsealOk k bs ∧ c = 0 ∨ ¬ UnsealOk k bs ∧ c = 210) ∧ (UnsealOk k bs ∧ b = true ∨ ¬ UnsealOk k bs ∧ b = false) ∧ (c = 0 ∧ b = true ∨ c = 210 ∧ b = false) := by
  by_cases h : UnsealOk k bs
  · exact ⟨_, 0, true, .inl ⟨h, rfl⟩, .inl ⟨h, rfl⟩, .inl ⟨h, rfl⟩, .inl ⟨rfl, rfl⟩⟩
  · exact ⟨_, 210, false, .inr ⟨h, rfl⟩, .inr ⟨h, rfl⟩, .inr ⟨h, rfl⟩, .inr ⟨rfl, rfl⟩⟩
theorem rowsOf_by {bs : List Int} (h : By bs) (k : Nat) : ∀ l ∈ rowsOf bs k, By l := fun l hl => by
  obtain ⟨i, _, rfl⟩ := List.mem_map.1 hl
  exact ((restAt_by h i).drop 8).take _

set_option maxHeartbeats 8000000 in
set_option maxRecDepth 100000 in
theorem frameTells_walk (v : Value) (bs : List Int) (k : Int) (w : World) (hr : RdB w v bs) (hby : By bs) (hz : bs.length ≤ 140737488351232) (hk : 0 ≤ k ∧ k < 256) :
    Calls Try.prog 13 #[v, .int .u8 k] w fun e w' => e = .returned (.bool true) ∧ Below w.heap.size w w' := by
  have hr0 := Lib.hid hr
  obtain ⟨A, c, rfl, hcap, hread⟩ := hr
  have Hr := Lib.hid hread
  clear hread
  by_cases h5 : 500 < bs.length
  · go_enter Try.func13, Try.ntmps13
    go_wp2_with (go_at_call 26; refine (known21 _).mono ?_; rintro e w1 ⟨rfl, hb1⟩)
    go_ret
    exact ⟨rfl, hb1⟩
  have hlen : bs.length ≤ 1000000000000 := by omega
  have hz2 : bs.length ≤ 140737488350000 := by omega
  have Hlen := Lib.hid hlen
  have Hz2 := Lib.hid hz2
  have Hl1 := Lib.hid (show (([] : List Int).length + bs.length) * 1 ≤ 140737488355328 from by simp; omega)
  clear hlen hz2
  obtain ⟨X, R, kc, kb, hX, hkc, hkb, hkk⟩ := both_next bs
  obtain ⟨U, uc, ub, hU, huc, hub, huu⟩ := both_unseal k bs
  have HN := Lib.hid (fun v w e w' hv h => next_both (v := v) (w := w) (w' := w') (e := e) hv h X R hX kc hkc)
  have HRN := Lib.hid (fun v w e w' hv h => rnext_both (v := v) (w := w) (w' := w') (e := e) hv h X R hX kb hkb)
  have HU := Lib.hid (fun w e w' h => unseal_both (k := k) (bs := bs) (w := w) (w' := w') (e := e) h U hU uc huc)
  have HRU := Lib.hid (fun w e w' h => runseal_both (k := k) (bs := bs) (w := w) (w' := w') (e := e) h U hU ub hub)
  have hkc' : kc = 0 ∨ kc = 210 := hkk.imp And.left And.left
  have hXn : X.length ≤ 500 ∧ R.length ≤ 500 := by
    rcases hX with ⟨_, rfl, rfl⟩ | ⟨_, rfl, rfl⟩
    · unfold nextX nextR
      simp only [List.length_take, List.length_drop]
      omega
    · simp; omega
  obtain ⟨hXl, hRl⟩ := hXn
  clear hX hkc hkb hU huc hub hkc'
  go_enter Try.func13, Try.ntmps13
  go_wp2_with (first
    | (go_at_call 26; refine (known21 _).mono ?_; rintro e w1 ⟨rfl, hb1⟩; have HB1 := Lib.hid hb1; clear hb1; have Hrd1 := Lib.hid (Hr.out.below HB1.out))
    | (at_builtin; refine print_append_row (w0 := w1) w1.heap.size rfl _ _ _ _ .u8 1 rfl Try.underlying22 info8 (by omega) (.slice none 0 0) [] bs A bs.length c rfl rfl (own_nil _ _ _ _) Hrd1.out (Below.refl _ _) (Nat.le_refl _) Hl1.out ?_; intro v2 w2 ho2 hb2 hg2 hat2))
  rw [List.nil_append] at ho2
  refine (frame_next v2 bs w2 (OwnB.rd ho2) hby).mono ?_
  intro e w3 hP
  obtain ⟨x3, r3, rfl, hx3, hr3, hb3⟩ := HN.out _ _ _ _ (OwnB.rd ho2) hP
  have HB3 := Lib.hid (HB1.out.trans ((below_then (B := w1.heap.size) hb2 hb2.size hb3).mono HB1.out.size))
  have Hx3 := Lib.hid hx3
  have Hr3 := Lib.hid hr3
  clear ho2 hb2 hg2 hat2 hb3 hx3 hr3 hP HN
  go_wp2_with fail
  refine (ref21_next (.slice A bs.length c) bs w3 (hr0.out.below HB3.out) hby).mono ?_
  intro e w4 hP
  obtain ⟨x4, r4, rfl, hx4, hr4, hb4⟩ := HRN.out _ _ _ _ (hr0.out.below HB3.out) hP
  have HB4 := Lib.hid (HB3.out.trans (hb4.mono HB3.out.size))
  have Hx3 := Lib.hid (Hx3.out.below hb4)
  have Hr3 := Lib.hid (Hr3.out.below hb4)
  have Hx4 := Lib.hid hx4
  have Hr4 := Lib.hid hr4
  clear hb4 hx4 hr4 hP HRN
  go_wp2_with fail
  refine (frame_all (.slice A bs.length c) bs w4 (hr0.out.below HB4.out) hby Hlen.out).mono ?_
  rintro e w5 ⟨n, l5, hn, rfl, hl5, hb5⟩
  have HB5 := Lib.hid (HB4.out.trans (hb5.mono HB4.out.size))
  have Hx3 := Lib.hid (Hx3.out.below hb5)
  have Hr3 := Lib.hid (Hr3.out.below hb5)
  have Hx4 := Lib.hid (Hx4.out.below hb5)
  have Hr4 := Lib.hid (Hr4.out.below hb5)
  have Hl5 := Lib.hid hl5
  have HAN := Lib.hid hn
  obtain ⟨at_, hat_⟩ : ∃ a : Int, ((bs.length : Int) - (restAt bs n).length) = a := ⟨_, rfl⟩
  rw [hat_]
  have Hat := Lib.hid hat_
  clear hb5 hl5 hn hat_
  go_wp2_with fail
  refine (ref21_all (.slice A bs.length c) bs w5 (hr0.out.below HB5.out) hby Hlen.out).mono ?_
  rintro e w6 ⟨n', l6, hn, rfl, hl6, hb6⟩
  obtain rfl := AllN.unique HAN.out hn
  have HB6 := Lib.hid (HB5.out.trans (hb6.mono HB5.out.size))
  have Hx3 := Lib.hid (Hx3.out.below hb6)
  have Hr3 := Lib.hid (Hr3.out.below hb6)
  have Hx4 := Lib.hid (Hx4.out.below hb6)
  have Hr4 := Lib.hid (Hr4.out.below hb6)
  have Hl5 := Lib.hid (Hl5.out.below hb6)
  have Hl6 := Lib.hid hl6
  rw [Hat.out]
  have Hby : Hid (∀ l ∈ rowsOf bs n, By l) := Lib.hid (rowsOf_by hby n)
  obtain ⟨LS, hLS⟩ : ∃ LS, rowsOf bs n = LS := ⟨_, rfl⟩
  rw [hLS] at Hl5 Hl6 Hby
  clear hb6 hl6 hn HAN Hat hLS
  go_wp2_with fail
  refine (frame_unseal k (.slice A bs.length c) bs w6 hk (hr0.out.below HB6.out) hby).mono ?_
  intro e w7 hP
  obtain ⟨u7, rfl, hu7, hb7⟩ := HU.out _ _ _ hP
  have HB7 := Lib.hid (HB6.out.trans (hb7.mono HB6.out.size))
  have Hx3 := Lib.hid (Hx3.out.below hb7)
  have Hr3 := Lib.hid (Hr3.out.below hb7)
  have Hx4 := Lib.hid (Hx4.out.below hb7)
  have Hr4 := Lib.hid (Hr4.out.below hb7)
  have Hl5 := Lib.hid (Hl5.out.below hb7)
  have Hl6 := Lib.hid (Hl6.out.below hb7)
  have Hu7 := Lib.hid hu7
  clear hb7 hu7 hP HU
  go_wp2_with fail
  refine (ref21_unseal k (.slice A bs.length c) bs w7 hk (hr0.out.below HB7.out) hby).mono ?_
  intro e w8 hP
  obtain ⟨u8, rfl, hu8, hb8⟩ := HRU.out _ _ _ hP
  have HB8 := Lib.hid (HB7.out.trans (hb8.mono HB7.out.size))
  obtain ⟨A3, c3, rfl, hc3, hx3⟩ := Hx3.out.below hb8
  obtain ⟨A4, c4, rfl, hc4, hx4⟩ := Hx4.out.below hb8
  obtain ⟨B3, d3, rfl, hd3, hr3⟩ := Hr3.out.below hb8
  obtain ⟨B4, d4, rfl, hd4, hr4⟩ := Hr4.out.below hb8
  obtain ⟨A7, c7, rfl, hc7, hu7⟩ := Hu7.out.below hb8
  obtain ⟨A8, c8, rfl, hc8, hu8⟩ := hu8
  have HL5 := Lib.hid (Hl5.out.below hb8)
  have HL6 := Lib.hid (Hl6.out.below hb8)
  have Hr0 := Lib.hid (hr0.out.below HB8.out)
  have E3 := Lib.hid (fun W (h : Below w8.heap.size w8 W) => conv_bytes_string (P := Try.prog) 22 5 9 Try.underlying22 Try.underlying5 Try.underlying9 (hx3.below h) c3)
  have E4 := Lib.hid (fun W (h : Below w8.heap.size w8 W) => conv_bytes_string (P := Try.prog) 22 5 9 Try.underlying22 Try.underlying5 Try.underlying9 (hx4.below h) c4)
  have F3 := Lib.hid (fun W (h : Below w8.heap.size w8 W) => conv_bytes_string (P := Try.prog) 22 5 9 Try.underlying22 Try.underlying5 Try.underlying9 (hr3.below h) d3)
  have F4 := Lib.hid (fun W (h : Below w8.heap.size w8 W) => conv_bytes_string (P := Try.prog) 22 5 9 Try.underlying22 Try.underlying5 Try.underlying9 (hr4.below h) d4)
  have E7 := Lib.hid (fun W (h : Below w8.heap.size w8 W) => conv_bytes_string (P := Try.prog) 22 5 9 Try.underlying22 Try.underlying5 Try.underlying9 (hu7.below h) c7)
  have E8 := Lib.hid (fun W (h : Below w8.heap.size w8 W) => conv_bytes_string (P := Try.prog) 22 5 9 Try.underlying22 Try.underlying5 Try.underlying9 (hu8.below h) c8)
  clear hb8 hx3 hx4 hr3 hr4 hu7 hu8 hP HRU Hx3 Hx4 Hr3 Hr4 Hu7 Hl5 Hl6 hc3 hc4 hd3 hd4 hc7 hc8
  obtain ⟨F, hF⟩ : ∃ F, frameB bs = F := ⟨_, rfl⟩
  obtain ⟨G, hG⟩ : ∃ G, frameB (k :: bs) = G := ⟨_, rfl⟩
  have hf1 := fun W (h : RdB W (.slice A bs.length c) bs) => frame_frame (.slice A bs.length c) bs W h hby hz
  have hf2 := fun W (h : RdB W (.slice A bs.length c) bs) => ref21_frame (.slice A bs.length c) bs W h hby hz
  have hg1 := fun W (h : RdB W (.slice A bs.length c) bs) => frame_seal k (.slice A bs.length c) bs W hk h hby Hz2.out
  have hg2 := fun W (h : RdB W (.slice A bs.length c) bs) => ref21_seal k (.slice A bs.length c) bs W hk h hby Hz2.out
  rw [hF] at hf1 hf2
  rw [hG] at hg1 hg2
  have HF1 := Lib.hid hf1
  have HF2 := Lib.hid hf2
  have HG1 := Lib.hid hg1
  have HG2 := Lib.hid hg2
  have HTX := Lib.hid (fun W (h : Below w8.heap.size w8 W) => (texts_is l5 l6 LS LS W (HL5.out.below h) (HL6.out.below h) Hby.out Hby.out).mono (fun e w' hh => (⟨hh.1.trans (by rw [decide_eq_true rfl]), hh.2⟩ : e = .returned (.bool true) ∧ Below W.heap.size W w')))
  clear hf1 hf2 hg1 hg2 hF hG
  have SS := fun W (h : Below w8.heap.size w8 W) => (⟨h, E3.out _ h, E4.out _ h, F3.out _ h, F4.out _ h, E7.out _ h, E8.out _ h⟩ : Below w8.heap.size w8 W ∧ (convert 22 9 (.slice A3 X.length c3)).run Try.prog W = .ok (.string (strOfNums X)) W ∧ (convert 22 9 (.slice A4 X.length c4)).run Try.prog W = .ok (.string (strOfNums X)) W ∧ (convert 22 9 (.slice B3 R.length d3)).run Try.prog W = .ok (.string (strOfNums R)) W ∧ (convert 22 9 (.slice B4 R.length d4)).run Try.prog W = .ok (.string (strOfNums R)) W ∧ (convert 22 9 (.slice A7 U.length c7)).run Try.prog W = .ok (.string (strOfNums U)) W ∧ (convert 22 9 (.slice A8 U.length c8)).run Try.prog W = .ok (.string (strOfNums U)) W)
  clear E3 E4 F3 F4 E7 E8
  rcases hkk with ⟨rfl, rfl⟩ | ⟨rfl, rfl⟩ <;> rcases huu with ⟨rfl, rfl⟩ | ⟨rfl, rfl⟩ <;> go_wp2_with fail
  · refine wp_region_noPanic ?_
    refine wp_region_held_drew (S := fun W => Below w8.heap.size w8 W ∧ (convert 22 9 (.slice A3 X.length c3)).run Try.prog W = .ok (.string (strOfNums X)) W ∧ (convert 22 9 (.slice A4 X.length c4)).run Try.prog W = .ok (.string (strOfNums X)) W ∧ (convert 22 9 (.slice B3 R.length d3)).run Try.prog W = .ok (.string (strOfNums R)) W ∧ (convert 22 9 (.slice B4 R.length d4)).run Try.prog W = .ok (.string (strOfNums R)) W ∧ (convert 22 9 (.slice A7 U.length c7)).run Try.prog W = .ok (.string (strOfNums U)) W ∧ (convert 22 9 (.slice A8 U.length c8)).run Try.prog W = .ok (.string (strOfNums U)) W) (by kernel_rfl) (SS _ (Below.refl _ _).drew) (fun hHeld => ?_)
    refine held_take (i := 0) (v := ?_) rfl (by kernel_rfl) (by kernel_rfl) (by kernel_rfl) (fun _ _ _ h => h) (by rfl) hHeld ?y11_0 ?_
    case y11_0 => (intro w hSw; (try dsimp only at hSw); go_simp; try with_reducible rfl)
    try simp only [Act.put, List.setIfInBounds_toArray, List.set_cons_zero, List.set_cons_succ]
    refine held_take (i := 3) (v := ?_) rfl (by kernel_rfl) (by kernel_rfl) (by kernel_rfl) (fun _ _ _ h => h) (by rfl) hHeld ?y11_3 ?_
    case y11_3 => (intro w hSw; (try dsimp only at hSw); go_simp; try with_reducible rfl)
    try simp only [Act.put, List.setIfInBounds_toArray, List.set_cons_zero, List.set_cons_succ]
    refine held_one (i := 1) (by kernel_rfl) rfl (fun K hK => ?_)
    (refine step_call (by rfl) _ _ (by rfl) Try.func27 (by kernel_rfl) (by kernel_rfl) (by simp only [List.map_toArray, List.map_cons, List.map_nil]; rfl) ((HF1.out _ (Hr0.out.below hHeld.1)).mono ?_); rintro e w11 ⟨v11, rfl, ho11, hb11⟩; obtain ⟨A11, c11, rfl, hc11, hr11⟩ := ho11.rd; have HB11 := hHeld.1.trans (hb11.mono hHeld.1.size); have hS1 := SS _ HB11; refine ⟨_, rfl, ?_⟩)
    refine hK.out _ _ ?_ (fun hHeld => ?_)
    · exact hS1
    clear hK K
    try simp only [Act.put, List.setIfInBounds_toArray, List.set_cons_zero, List.set_cons_succ]
    have SS1 := fun W (h : Below w11.heap.size w11 W) => (⟨h, conv_bytes_string (P := Try.prog) 22 5 9 Try.underlying22 Try.underlying5 Try.underlying9 (hr11.below h) c11, (SS W (HB11.trans (h.mono HB11.size))).2⟩ : Below w11.heap.size w11 W ∧ (convert 22 9 (.slice A11 F.length c11)).run Try.prog W = .ok (.string (strOfNums F)) W ∧ (convert 22 9 (.slice A3 X.length c3)).run Try.prog W = .ok (.string (strOfNums X)) W ∧ (convert 22 9 (.slice A4 X.length c4)).run Try.prog W = .ok (.string (strOfNums X)) W ∧ (convert 22 9 (.slice B3 R.length d3)).run Try.prog W = .ok (.string (strOfNums R)) W ∧ (convert 22 9 (.slice B4 R.length d4)).run Try.prog W = .ok (.string (strOfNums R)) W ∧ (convert 22 9 (.slice A7 U.length c7)).run Try.prog W = .ok (.string (strOfNums U)) W ∧ (convert 22 9 (.slice A8 U.length c8)).run Try.prog W = .ok (.string (strOfNums U)) W)
    refine held_rebase (S' := fun W => Below w11.heap.size w11 W ∧ (convert 22 9 (.slice A11 F.length c11)).run Try.prog W = .ok (.string (strOfNums F)) W ∧ (convert 22 9 (.slice A3 X.length c3)).run Try.prog W = .ok (.string (strOfNums X)) W ∧ (convert 22 9 (.slice A4 X.length c4)).run Try.prog W = .ok (.string (strOfNums X)) W ∧ (convert 22 9 (.slice B3 R.length d3)).run Try.prog W = .ok (.string (strOfNums R)) W ∧ (convert 22 9 (.slice B4 R.length d4)).run Try.prog W = .ok (.string (strOfNums R)) W ∧ (convert 22 9 (.slice A7 U.length c7)).run Try.prog W = .ok (.string (strOfNums U)) W ∧ (convert 22 9 (.slice A8 U.length c8)).run Try.prog W = .ok (.string (strOfNums U)) W) (fun W h => SS W (HB11.trans (h.1.mono HB11.size))) _ _ _ _ ?_
    replace hHeld := SS1 _ (Below.refl _ _)
    clear hS1 ho11 hb11 hr11
    refine held_take (i := 2) (v := ?_) rfl (by kernel_rfl) (by kernel_rfl) (by kernel_rfl) (fun _ _ _ h => h) (by rfl) hHeld ?y11_2 ?_
    case y11_2 => (intro w hSw; (try dsimp only at hSw); go_simp; try with_reducible rfl)
    try simp only [Act.put, List.setIfInBounds_toArray, List.set_cons_zero, List.set_cons_succ]
    refine held_one (i := 4) (by kernel_rfl) rfl (fun K hK => ?_)
    (refine step_call (by rfl) _ _ (by rfl) Try.func36 (by kernel_rfl) (by kernel_rfl) (by simp only [List.map_toArray, List.map_cons, List.map_nil]; rfl) ((HF2.out _ (Hr0.out.below (HB11.trans (hHeld.1.mono HB11.size)))).mono ?_); rintro e w12 ⟨v12, rfl, ho12, hb12⟩; obtain ⟨A12, c12, rfl, hc12, hr12⟩ := ho12.rd; have HC12 := hHeld.1.trans (hb12.mono hHeld.1.size); have hS4 := SS1 _ HC12; refine ⟨_, rfl, ?_⟩)
    refine hK.out _ _ ?_ (fun hHeld => ?_)
    · exact hS4
    clear hK K
    try simp only [Act.put, List.setIfInBounds_toArray, List.set_cons_zero, List.set_cons_succ]
    have SS2 := fun W (h : Below w12.heap.size w12 W) => (⟨h, conv_bytes_string (P := Try.prog) 22 5 9 Try.underlying22 Try.underlying5 Try.underlying9 (hr12.below h) c12, (SS1 W (HC12.trans (h.mono HC12.size))).2⟩ : Below w12.heap.size w12 W ∧ (convert 22 9 (.slice A12 F.length c12)).run Try.prog W = .ok (.string (strOfNums F)) W ∧ (convert 22 9 (.slice A11 F.length c11)).run Try.prog W = .ok (.string (strOfNums F)) W ∧ (convert 22 9 (.slice A3 X.length c3)).run Try.prog W = .ok (.string (strOfNums X)) W ∧ (convert 22 9 (.slice A4 X.length c4)).run Try.prog W = .ok (.string (strOfNums X)) W ∧ (convert 22 9 (.slice B3 R.length d3)).run Try.prog W = .ok (.string (strOfNums R)) W ∧ (convert 22 9 (.slice B4 R.length d4)).run Try.prog W = .ok (.string (strOfNums R)) W ∧ (convert 22 9 (.slice A7 U.length c7)).run Try.prog W = .ok (.string (strOfNums U)) W ∧ (convert 22 9 (.slice A8 U.length c8)).run Try.prog W = .ok (.string (strOfNums U)) W)
    refine held_rebase (S' := fun W => Below w12.heap.size w12 W ∧ (convert 22 9 (.slice A12 F.length c12)).run Try.prog W = .ok (.string (strOfNums F)) W ∧ (convert 22 9 (.slice A11 F.length c11)).run Try.prog W = .ok (.string (strOfNums F)) W ∧ (convert 22 9 (.slice A3 X.length c3)).run Try.prog W = .ok (.string (strOfNums X)) W ∧ (convert 22 9 (.slice A4 X.length c4)).run Try.prog W = .ok (.string (strOfNums X)) W ∧ (convert 22 9 (.slice B3 R.length d3)).run Try.prog W = .ok (.string (strOfNums R)) W ∧ (convert 22 9 (.slice B4 R.length d4)).run Try.prog W = .ok (.string (strOfNums R)) W ∧ (convert 22 9 (.slice A7 U.length c7)).run Try.prog W = .ok (.string (strOfNums U)) W ∧ (convert 22 9 (.slice A8 U.length c8)).run Try.prog W = .ok (.string (strOfNums U)) W) (fun W h => SS1 W (HC12.trans (h.1.mono HC12.size))) _ _ _ _ ?_
    replace hHeld := SS2 _ (Below.refl _ _)
    have HB12 := HB11.trans (HC12.mono HB11.size)
    clear hS4 ho12 hb12 hr12
    refine held_take (i := 5) (v := ?_) rfl (by kernel_rfl) (by kernel_rfl) (by kernel_rfl) (fun _ _ _ h => h) (by rfl) hHeld ?y11_5 ?_
    case y11_5 => (intro w hSw; (try dsimp only at hSw); go_simp; try with_reducible rfl)
    try simp only [Act.put, List.setIfInBounds_toArray, List.set_cons_zero, List.set_cons_succ]
    refine held_take (i := 6) (v := ?_) rfl (by kernel_rfl) (by kernel_rfl) (by kernel_rfl) (fun _ _ _ h => h) (by rfl) hHeld ?y11_6 ?_
    case y11_6 => (intro w hSw; (try dsimp only at hSw); go_simp; try with_reducible rfl)
    try simp only [Act.put, List.setIfInBounds_toArray, List.set_cons_zero, List.set_cons_succ]
    refine held_take (i := 7) (v := ?_) rfl (by kernel_rfl) (by kernel_rfl) (by kernel_rfl) (fun _ _ _ h => h) (by rfl) hHeld ?y11_7 ?_
    case y11_7 => (intro w hSw; (try dsimp only at hSw); go_simp; try with_reducible rfl)
    try simp only [Act.put, List.setIfInBounds_toArray, List.set_cons_zero, List.set_cons_succ]
    refine held_take (i := 8) (v := ?_) rfl (by kernel_rfl) (by kernel_rfl) (by kernel_rfl) (fun _ _ _ h => h) (by rfl) hHeld ?y11_8 ?_
    case y11_8 => (intro w hSw; (try dsimp only at hSw); go_simp; try with_reducible rfl)
    try simp only [Act.put, List.setIfInBounds_toArray, List.set_cons_zero, List.set_cons_succ]
    refine held_take (i := 9) (v := ?_) rfl (by kernel_rfl) (by kernel_rfl) (by kernel_rfl) (fun _ _ _ h => h) (by rfl) hHeld ?y11_9 ?_
    case y11_9 => (intro w hSw; (try dsimp only at hSw); go_simp; try with_reducible rfl)
    try simp only [Act.put, List.setIfInBounds_toArray, List.set_cons_zero, List.set_cons_succ]
    refine held_take (i := 10) (v := ?_) rfl (by kernel_rfl) (by kernel_rfl) (by kernel_rfl) (fun _ _ _ h => h) (by rfl) hHeld ?y11_10 ?_
    case y11_10 => (intro w hSw; (try dsimp only at hSw); go_simp; try with_reducible rfl)
    try simp only [Act.put, List.setIfInBounds_toArray, List.set_cons_zero, List.set_cons_succ]
    refine held_take (i := 11) (v := ?_) rfl (by kernel_rfl) (by kernel_rfl) (by kernel_rfl) (fun _ _ _ h => h) (by rfl) hHeld ?y11_11 ?_
    case y11_11 => (intro w hSw; (try dsimp only at hSw); go_simp; try with_reducible rfl)
    try simp only [Act.put, List.setIfInBounds_toArray, List.set_cons_zero, List.set_cons_succ]
    refine held_take (i := 12) (v := ?_) rfl (by kernel_rfl) (by kernel_rfl) (by kernel_rfl) (fun _ _ _ h => h) (by rfl) hHeld ?y11_12 ?_
    case y11_12 => (intro w hSw; (try dsimp only at hSw); go_simp; try with_reducible rfl)
    try simp only [Act.put, List.setIfInBounds_toArray, List.set_cons_zero, List.set_cons_succ]
    refine held_take (i := 13) (v := ?_) rfl (by kernel_rfl) (by kernel_rfl) (by kernel_rfl) (fun _ _ _ h => h) (by rfl) hHeld ?y11_13 ?_
    case y11_13 => (intro w hSw; (try dsimp only at hSw); go_simp; try with_reducible rfl)
    try simp only [Act.put, List.setIfInBounds_toArray, List.set_cons_zero, List.set_cons_succ]
    refine held_take (i := 14) (v := ?_) rfl (by kernel_rfl) (by kernel_rfl) (by kernel_rfl) (fun _ _ _ h => h) (by rfl) hHeld ?y11_14 ?_
    case y11_14 => (intro w hSw; (try dsimp only at hSw); go_simp; try with_reducible rfl)
    try simp only [Act.put, List.setIfInBounds_toArray, List.set_cons_zero, List.set_cons_succ]
    refine held_take (i := 15) (v := ?_) rfl (by kernel_rfl) (by kernel_rfl) (by kernel_rfl) (fun _ _ _ h => h) (by rfl) hHeld ?y11_15 ?_
    case y11_15 => (intro w hSw; (try dsimp only at hSw); go_simp; try with_reducible rfl)
    try simp only [Act.put, List.setIfInBounds_toArray, List.set_cons_zero, List.set_cons_succ]
    refine held_take (i := 16) (v := ?_) rfl (by kernel_rfl) (by kernel_rfl) (by kernel_rfl) (fun _ _ _ h => h) (by rfl) hHeld ?y11_16 ?_
    case y11_16 => (intro w hSw; (try dsimp only at hSw); go_simp; try with_reducible rfl)
    try simp only [Act.put, List.setIfInBounds_toArray, List.set_cons_zero, List.set_cons_succ]
    refine held_off (i := 17) rfl (by kernel_rfl) (by kernel_rfl) (by kernel_rfl) (fun _ _ _ h => h) (by rfl) hHeld ?_
    try simp only [Act.put, List.setIfInBounds_toArray, List.set_cons_zero, List.set_cons_succ]
    refine held_off (i := 18) rfl (by kernel_rfl) (by kernel_rfl) (by kernel_rfl) (fun _ _ _ h => h) (by rfl) hHeld ?_
    try simp only [Act.put, List.setIfInBounds_toArray, List.set_cons_zero, List.set_cons_succ]
    refine held_take (i := 19) (v := ?_) rfl (by kernel_rfl) (by kernel_rfl) (by kernel_rfl) (fun _ _ _ h => h) (by rfl) hHeld ?y11_19 ?_
    case y11_19 => (intro w hSw; (try dsimp only at hSw); go_simp; try with_reducible rfl)
    try simp only [Act.put, List.setIfInBounds_toArray, List.set_cons_zero, List.set_cons_succ]
    refine held_take (i := 20) (v := ?_) rfl (by kernel_rfl) (by kernel_rfl) (by kernel_rfl) (fun _ _ _ h => h) (by rfl) hHeld ?y11_20 ?_
    case y11_20 => (intro w hSw; (try dsimp only at hSw); go_simp; try with_reducible rfl)
    try simp only [Act.put, List.setIfInBounds_toArray, List.set_cons_zero, List.set_cons_succ]
    refine held_take (i := 21) (v := ?_) rfl (by kernel_rfl) (by kernel_rfl) (by kernel_rfl) (fun _ _ _ h => h) (by rfl) hHeld ?y11_21 ?_
    case y11_21 => (intro w hSw; (try dsimp only at hSw); go_simp; try with_reducible rfl)
    try simp only [Act.put, List.setIfInBounds_toArray, List.set_cons_zero, List.set_cons_succ]
    refine held_take (i := 22) (v := ?_) rfl (by kernel_rfl) (by kernel_rfl) (by kernel_rfl) (fun _ _ _ h => h) (by rfl) hHeld ?y11_22 ?_
    case y11_22 => (intro w hSw; (try dsimp only at hSw); go_simp; try with_reducible rfl)
    try simp only [Act.put, List.setIfInBounds_toArray, List.set_cons_zero, List.set_cons_succ]
    refine held_take (i := 23) (v := ?_) rfl (by kernel_rfl) (by kernel_rfl) (by kernel_rfl) (fun _ _ _ h => h) (by rfl) hHeld ?y11_23 ?_
    case y11_23 => (intro w hSw; (try dsimp only at hSw); go_simp; try with_reducible rfl)
    try simp only [Act.put, List.setIfInBounds_toArray, List.set_cons_zero, List.set_cons_succ]
    refine held_take (i := 24) (v := ?_) rfl (by kernel_rfl) (by kernel_rfl) (by kernel_rfl) (fun _ _ _ h => h) (by rfl) hHeld ?y11_24 ?_
    case y11_24 => (intro w hSw; (try dsimp only at hSw); go_simp; try with_reducible rfl)
    try simp only [Act.put, List.setIfInBounds_toArray, List.set_cons_zero, List.set_cons_succ]
    refine held_take (i := 25) (v := ?_) rfl (by kernel_rfl) (by kernel_rfl) (by kernel_rfl) (fun _ _ _ h => h) (by rfl) hHeld ?y11_25 ?_
    case y11_25 => (intro w hSw; (try dsimp only at hSw); go_simp; try with_reducible rfl)
    try simp only [Act.put, List.setIfInBounds_toArray, List.set_cons_zero, List.set_cons_succ]
    refine held_take (i := 26) (v := ?_) rfl (by kernel_rfl) (by kernel_rfl) (by kernel_rfl) (fun _ _ _ h => h) (by rfl) hHeld ?y11_26 ?_
    case y11_26 => (intro w hSw; (try dsimp only at hSw); go_simp; try with_reducible rfl)
    try simp only [Act.put, List.setIfInBounds_toArray, List.set_cons_zero, List.set_cons_succ]
    refine held_take (i := 27) (v := ?_) rfl (by kernel_rfl) (by kernel_rfl) (by kernel_rfl) (fun _ _ _ h => h) (by rfl) hHeld ?y11_27 ?_
    case y11_27 => (intro w hSw; (try dsimp only at hSw); go_simp; try with_reducible rfl)
    try simp only [Act.put, List.setIfInBounds_toArray, List.set_cons_zero, List.set_cons_succ]
    refine held_take (i := 28) (v := ?_) rfl (by kernel_rfl) (by kernel_rfl) (by kernel_rfl) (fun _ _ _ h => h) (by rfl) hHeld ?y11_28 ?_
    case y11_28 => (intro w hSw; (try dsimp only at hSw); go_simp; try with_reducible rfl)
    try simp only [Act.put, List.setIfInBounds_toArray, List.set_cons_zero, List.set_cons_succ]
    refine held_take (i := 29) (v := ?_) rfl (by kernel_rfl) (by kernel_rfl) (by kernel_rfl) (fun _ _ _ h => h) (by rfl) hHeld ?y11_29 ?_
    case y11_29 => (intro w hSw; (try dsimp only at hSw); go_simp; try with_reducible rfl)
    try simp only [Act.put, List.setIfInBounds_toArray, List.set_cons_zero, List.set_cons_succ]
    refine held_take (i := 30) (v := ?_) rfl (by kernel_rfl) (by kernel_rfl) (by kernel_rfl) (fun _ _ _ h => h) (by rfl) hHeld ?y11_30 ?_
    case y11_30 => (intro w hSw; (try dsimp only at hSw); go_simp; try with_reducible rfl)
    try simp only [Act.put, List.setIfInBounds_toArray, List.set_cons_zero, List.set_cons_succ]
    refine held_take (i := 31) (v := ?_) rfl (by kernel_rfl) (by kernel_rfl) (by kernel_rfl) (fun _ _ _ h => h) (by rfl) hHeld ?y11_31 ?_
    case y11_31 => (intro w hSw; (try dsimp only at hSw); go_simp; try with_reducible rfl)
    try simp only [Act.put, List.setIfInBounds_toArray, List.set_cons_zero, List.set_cons_succ]
    refine held_take (i := 32) (v := ?_) rfl (by kernel_rfl) (by kernel_rfl) (by kernel_rfl) (fun _ _ _ h => h) (by rfl) hHeld ?y11_32 ?_
    case y11_32 => (intro w hSw; (try dsimp only at hSw); go_simp; try with_reducible rfl)
    try simp only [Act.put, List.setIfInBounds_toArray, List.set_cons_zero, List.set_cons_succ]
    refine held_take (i := 33) (v := ?_) rfl (by kernel_rfl) (by kernel_rfl) (by kernel_rfl) (fun _ _ _ h => h) (by rfl) hHeld ?y11_33 ?_
    case y11_33 => (intro w hSw; (try dsimp only at hSw); go_simp; try with_reducible rfl)
    try simp only [Act.put, List.setIfInBounds_toArray, List.set_cons_zero, List.set_cons_succ]
    refine held_take (i := 34) (v := ?_) rfl (by kernel_rfl) (by kernel_rfl) (by kernel_rfl) (fun _ _ _ h => h) (by rfl) hHeld ?y11_34 ?_
    case y11_34 => (intro w hSw; (try dsimp only at hSw); go_simp; try with_reducible rfl)
    try simp only [Act.put, List.setIfInBounds_toArray, List.set_cons_zero, List.set_cons_succ]
    refine held_take (i := 35) (v := ?_) rfl (by kernel_rfl) (by kernel_rfl) (by kernel_rfl) (fun _ _ _ h => h) (by rfl) hHeld ?y11_35 ?_
    case y11_35 => (intro w hSw; (try dsimp only at hSw); go_simp; try with_reducible rfl)
    try simp only [Act.put, List.setIfInBounds_toArray, List.set_cons_zero, List.set_cons_succ]
    refine held_take (i := 36) (v := ?_) rfl (by kernel_rfl) (by kernel_rfl) (by kernel_rfl) (fun _ _ _ h => h) (by rfl) hHeld ?y11_36 ?_
    case y11_36 => (intro w hSw; (try dsimp only at hSw); go_simp; try with_reducible rfl)
    try simp only [Act.put, List.setIfInBounds_toArray, List.set_cons_zero, List.set_cons_succ]
    refine held_take (i := 37) (v := ?_) rfl (by kernel_rfl) (by kernel_rfl) (by kernel_rfl) (fun _ _ _ h => h) (by rfl) hHeld ?y11_37 ?_
    case y11_37 => (intro w hSw; (try dsimp only at hSw); go_simp; try with_reducible rfl)
    try simp only [Act.put, List.setIfInBounds_toArray, List.set_cons_zero, List.set_cons_succ]
    refine held_one (i := 38) (by kernel_rfl) rfl (fun K hK => ?_)
    (refine step_call (by rfl) _ _ (by rfl) Try.func32 (by kernel_rfl) (by kernel_rfl) (by simp only [List.map_toArray, List.map_cons, List.map_nil]; rfl) ((HTX.out _ (HB12.trans (hHeld.1.mono HB12.size))).mono ?_); rintro e w13 ⟨rfl, hb13⟩; have hS38 := SS2 _ (hHeld.1.trans (hb13.mono hHeld.1.size)); refine ⟨_, rfl, ?_⟩)
    refine hK.out _ _ ?_ (fun hHeld => ?_)
    · exact hS38
    clear hK K
    try simp only [Act.put, List.setIfInBounds_toArray, List.set_cons_zero, List.set_cons_succ]
    clear hS38 hb13
    refine held_take (i := 39) (v := ?_) rfl (by kernel_rfl) (by kernel_rfl) (by kernel_rfl) (fun _ _ _ h => h) (by rfl) hHeld ?y11_39 ?_
    case y11_39 => (intro w hSw; (try dsimp only at hSw); go_simp; try with_reducible rfl)
    try simp only [Act.put, List.setIfInBounds_toArray, List.set_cons_zero, List.set_cons_succ]
    refine held_take (i := 40) (v := ?_) rfl (by kernel_rfl) (by kernel_rfl) (by kernel_rfl) (fun _ _ _ h => h) (by rfl) hHeld ?y11_40 ?_
    case y11_40 => (intro w hSw; (try dsimp only at hSw); go_simp; try with_reducible rfl)
    try simp only [Act.put, List.setIfInBounds_toArray, List.set_cons_zero, List.set_cons_succ]
    refine held_take (i := 41) (v := ?_) rfl (by kernel_rfl) (by kernel_rfl) (by kernel_rfl) (fun _ _ _ h => h) (by rfl) hHeld ?y11_41 ?_
    case y11_41 => (intro w hSw; (try dsimp only at hSw); go_simp; try with_reducible rfl)
    try simp only [Act.put, List.setIfInBounds_toArray, List.set_cons_zero, List.set_cons_succ]
    refine held_take (i := 42) (v := ?_) rfl (by kernel_rfl) (by kernel_rfl) (by kernel_rfl) (fun _ _ _ h => h) (by rfl) hHeld ?y11_42 ?_
    case y11_42 => (intro w hSw; (try dsimp only at hSw); go_simp; try with_reducible rfl)
    try simp only [Act.put, List.setIfInBounds_toArray, List.set_cons_zero, List.set_cons_succ]
    refine held_take (i := 43) (v := ?_) rfl (by kernel_rfl) (by kernel_rfl) (by kernel_rfl) (fun _ _ _ h => h) (by rfl) hHeld ?y11_43 ?_
    case y11_43 => (intro w hSw; (try dsimp only at hSw); go_simp; try with_reducible rfl)
    try simp only [Act.put, List.setIfInBounds_toArray, List.set_cons_zero, List.set_cons_succ]
    refine held_take (i := 44) (v := ?_) rfl (by kernel_rfl) (by kernel_rfl) (by kernel_rfl) (fun _ _ _ h => h) (by rfl) hHeld ?y11_44 ?_
    case y11_44 => (intro w hSw; (try dsimp only at hSw); go_simp; try with_reducible rfl)
    try simp only [Act.put, List.setIfInBounds_toArray, List.set_cons_zero, List.set_cons_succ]
    refine held_take (i := 45) (v := ?_) rfl (by kernel_rfl) (by kernel_rfl) (by kernel_rfl) (fun _ _ _ h => h) (by rfl) hHeld ?y11_45 ?_
    case y11_45 => (intro w hSw; (try dsimp only at hSw); go_simp; try with_reducible rfl)
    try simp only [Act.put, List.setIfInBounds_toArray, List.set_cons_zero, List.set_cons_succ]
    refine held_take (i := 46) (v := ?_) rfl (by kernel_rfl) (by kernel_rfl) (by kernel_rfl) (fun _ _ _ h => h) (by rfl) hHeld ?y11_46 ?_
    case y11_46 => (intro w hSw; (try dsimp only at hSw); go_simp; try with_reducible rfl)
    try simp only [Act.put, List.setIfInBounds_toArray, List.set_cons_zero, List.set_cons_succ]
    refine held_take (i := 47) (v := ?_) rfl (by kernel_rfl) (by kernel_rfl) (by kernel_rfl) (fun _ _ _ h => h) (by rfl) hHeld ?y11_47 ?_
    case y11_47 => (intro w hSw; (try dsimp only at hSw); go_simp; try with_reducible rfl)
    try simp only [Act.put, List.setIfInBounds_toArray, List.set_cons_zero, List.set_cons_succ]
    refine held_take (i := 50) (v := ?_) rfl (by kernel_rfl) (by kernel_rfl) (by kernel_rfl) (fun _ _ _ h => h) (by rfl) hHeld ?y11_50 ?_
    case y11_50 => (intro w hSw; (try dsimp only at hSw); go_simp; try with_reducible rfl)
    try simp only [Act.put, List.setIfInBounds_toArray, List.set_cons_zero, List.set_cons_succ]
    refine held_take (i := 51) (v := ?_) rfl (by kernel_rfl) (by kernel_rfl) (by kernel_rfl) (fun _ _ _ h => h) (by rfl) hHeld ?y11_51 ?_
    case y11_51 => (intro w hSw; (try dsimp only at hSw); go_simp; try with_reducible rfl)
    try simp only [Act.put, List.setIfInBounds_toArray, List.set_cons_zero, List.set_cons_succ]
    refine held_one (i := 48) (by kernel_rfl) rfl (fun K hK => ?_)
    (refine step_call (by rfl) _ _ (by rfl) Try.func29 (by kernel_rfl) (by kernel_rfl) (by simp only [List.map_toArray, List.map_cons, List.map_nil]; rfl) ((HG1.out _ (Hr0.out.below (HB12.trans (hHeld.1.mono HB12.size)))).mono ?_); rintro e w14 ⟨v14, rfl, ho14, hb14⟩; obtain ⟨A14, c14, rfl, hc14, hr14⟩ := ho14.rd; have HC14 := hHeld.1.trans (hb14.mono hHeld.1.size); have hS48 := SS2 _ HC14; refine ⟨_, rfl, ?_⟩)
    refine hK.out _ _ ?_ (fun hHeld => ?_)
    · exact hS48
    clear hK K
    try simp only [Act.put, List.setIfInBounds_toArray, List.set_cons_zero, List.set_cons_succ]
    have SS3 := fun W (h : Below w14.heap.size w14 W) => (⟨h, conv_bytes_string (P := Try.prog) 22 5 9 Try.underlying22 Try.underlying5 Try.underlying9 (hr14.below h) c14, (SS2 W (HC14.trans (h.mono HC14.size))).2⟩ : Below w14.heap.size w14 W ∧ (convert 22 9 (.slice A14 G.length c14)).run Try.prog W = .ok (.string (strOfNums G)) W ∧ (convert 22 9 (.slice A12 F.length c12)).run Try.prog W = .ok (.string (strOfNums F)) W ∧ (convert 22 9 (.slice A11 F.length c11)).run Try.prog W = .ok (.string (strOfNums F)) W ∧ (convert 22 9 (.slice A3 X.length c3)).run Try.prog W = .ok (.string (strOfNums X)) W ∧ (convert 22 9 (.slice A4 X.length c4)).run Try.prog W = .ok (.string (strOfNums X)) W ∧ (convert 22 9 (.slice B3 R.length d3)).run Try.prog W = .ok (.string (strOfNums R)) W ∧ (convert 22 9 (.slice B4 R.length d4)).run Try.prog W = .ok (.string (strOfNums R)) W ∧ (convert 22 9 (.slice A7 U.length c7)).run Try.prog W = .ok (.string (strOfNums U)) W ∧ (convert 22 9 (.slice A8 U.length c8)).run Try.prog W = .ok (.string (strOfNums U)) W)
    refine held_rebase (S' := fun W => Below w14.heap.size w14 W ∧ (convert 22 9 (.slice A14 G.length c14)).run Try.prog W = .ok (.string (strOfNums G)) W ∧ (convert 22 9 (.slice A12 F.length c12)).run Try.prog W = .ok (.string (strOfNums F)) W ∧ (convert 22 9 (.slice A11 F.length c11)).run Try.prog W = .ok (.string (strOfNums F)) W ∧ (convert 22 9 (.slice A3 X.length c3)).run Try.prog W = .ok (.string (strOfNums X)) W ∧ (convert 22 9 (.slice A4 X.length c4)).run Try.prog W = .ok (.string (strOfNums X)) W ∧ (convert 22 9 (.slice B3 R.length d3)).run Try.prog W = .ok (.string (strOfNums R)) W ∧ (convert 22 9 (.slice B4 R.length d4)).run Try.prog W = .ok (.string (strOfNums R)) W ∧ (convert 22 9 (.slice A7 U.length c7)).run Try.prog W = .ok (.string (strOfNums U)) W ∧ (convert 22 9 (.slice A8 U.length c8)).run Try.prog W = .ok (.string (strOfNums U)) W) (fun W h => SS2 W (HC14.trans (h.1.mono HC14.size))) _ _ _ _ ?_
    replace hHeld := SS3 _ (Below.refl _ _)
    have HB14 := HB12.trans (HC14.mono HB12.size)
    clear hS48 ho14 hb14 hr14
    refine held_take (i := 49) (v := ?_) rfl (by kernel_rfl) (by kernel_rfl) (by kernel_rfl) (fun _ _ _ h => h) (by rfl) hHeld ?y11_49 ?_
    case y11_49 => (intro w hSw; (try dsimp only at hSw); go_simp; try with_reducible rfl)
    try simp only [Act.put, List.setIfInBounds_toArray, List.set_cons_zero, List.set_cons_succ]
    refine held_one (i := 52) (by kernel_rfl) rfl (fun K hK => ?_)
    (refine step_call (by rfl) _ _ (by rfl) Try.func37 (by kernel_rfl) (by kernel_rfl) (by simp only [List.map_toArray, List.map_cons, List.map_nil]; rfl) ((HG2.out _ (Hr0.out.below (HB14.trans (hHeld.1.mono HB14.size)))).mono ?_); rintro e w15 ⟨v15, rfl, ho15, hb15⟩; obtain ⟨A15, c15, rfl, hc15, hr15⟩ := ho15.rd; have HC15 := hHeld.1.trans (hb15.mono hHeld.1.size); have hS52 := SS3 _ HC15; refine ⟨_, rfl, ?_⟩)
    refine hK.out _ _ ?_ (fun hHeld => ?_)
    · exact hS52
    clear hK K
    try simp only [Act.put, List.setIfInBounds_toArray, List.set_cons_zero, List.set_cons_succ]
    have SS4 := fun W (h : Below w15.heap.size w15 W) => (⟨h, conv_bytes_string (P := Try.prog) 22 5 9 Try.underlying22 Try.underlying5 Try.underlying9 (hr15.below h) c15, (SS3 W (HC15.trans (h.mono HC15.size))).2⟩ : Below w15.heap.size w15 W ∧ (convert 22 9 (.slice A15 G.length c15)).run Try.prog W = .ok (.string (strOfNums G)) W ∧ (convert 22 9 (.slice A14 G.length c14)).run Try.prog W = .ok (.string (strOfNums G)) W ∧ (convert 22 9 (.slice A12 F.length c12)).run Try.prog W = .ok (.string (strOfNums F)) W ∧ (convert 22 9 (.slice A11 F.length c11)).run Try.prog W = .ok (.string (strOfNums F)) W ∧ (convert 22 9 (.slice A3 X.length c3)).run Try.prog W = .ok (.string (strOfNums X)) W ∧ (convert 22 9 (.slice A4 X.length c4)).run Try.prog W = .ok (.string (strOfNums X)) W ∧ (convert 22 9 (.slice B3 R.length d3)).run Try.prog W = .ok (.string (strOfNums R)) W ∧ (convert 22 9 (.slice B4 R.length d4)).run Try.prog W = .ok (.string (strOfNums R)) W ∧ (convert 22 9 (.slice A7 U.length c7)).run Try.prog W = .ok (.string (strOfNums U)) W ∧ (convert 22 9 (.slice A8 U.length c8)).run Try.prog W = .ok (.string (strOfNums U)) W)
    refine held_rebase (S' := fun W => Below w15.heap.size w15 W ∧ (convert 22 9 (.slice A15 G.length c15)).run Try.prog W = .ok (.string (strOfNums G)) W ∧ (convert 22 9 (.slice A14 G.length c14)).run Try.prog W = .ok (.string (strOfNums G)) W ∧ (convert 22 9 (.slice A12 F.length c12)).run Try.prog W = .ok (.string (strOfNums F)) W ∧ (convert 22 9 (.slice A11 F.length c11)).run Try.prog W = .ok (.string (strOfNums F)) W ∧ (convert 22 9 (.slice A3 X.length c3)).run Try.prog W = .ok (.string (strOfNums X)) W ∧ (convert 22 9 (.slice A4 X.length c4)).run Try.prog W = .ok (.string (strOfNums X)) W ∧ (convert 22 9 (.slice B3 R.length d3)).run Try.prog W = .ok (.string (strOfNums R)) W ∧ (convert 22 9 (.slice B4 R.length d4)).run Try.prog W = .ok (.string (strOfNums R)) W ∧ (convert 22 9 (.slice A7 U.length c7)).run Try.prog W = .ok (.string (strOfNums U)) W ∧ (convert 22 9 (.slice A8 U.length c8)).run Try.prog W = .ok (.string (strOfNums U)) W) (fun W h => SS3 W (HC15.trans (h.1.mono HC15.size))) _ _ _ _ ?_
    replace hHeld := SS4 _ (Below.refl _ _)
    have HB15 := HB14.trans (HC15.mono HB14.size)
    clear hS52 ho15 hb15 hr15
    refine held_take (i := 53) (v := ?_) rfl (by kernel_rfl) (by kernel_rfl) (by kernel_rfl) (fun _ _ _ h => h) (by rfl) hHeld ?y11_53 ?_
    case y11_53 => (intro w hSw; (try dsimp only at hSw); go_simp; try with_reducible rfl)
    try simp only [Act.put, List.setIfInBounds_toArray, List.set_cons_zero, List.set_cons_succ]
    refine held_take (i := 54) (v := ?_) rfl (by kernel_rfl) (by kernel_rfl) (by kernel_rfl) (fun _ _ _ h => h) (by rfl) hHeld ?y11_54 ?_
    case y11_54 => (intro w hSw; (try dsimp only at hSw); go_simp; try with_reducible rfl)
    try simp only [Act.put, List.setIfInBounds_toArray, List.set_cons_zero, List.set_cons_succ]
    refine held_take (i := 55) (v := ?_) rfl (by kernel_rfl) (by kernel_rfl) (by kernel_rfl) (fun _ _ _ h => h) (by rfl) hHeld ?y11_55 ?_
    case y11_55 => (intro w hSw; (try dsimp only at hSw); go_simp; try with_reducible rfl)
    try simp only [Act.put, List.setIfInBounds_toArray, List.set_cons_zero, List.set_cons_succ]
    refine held_take (i := 56) (v := ?_) rfl (by kernel_rfl) (by kernel_rfl) (by kernel_rfl) (fun _ _ _ h => h) (by rfl) hHeld ?y11_56 ?_
    case y11_56 => (intro w hSw; (try dsimp only at hSw); go_simp; try with_reducible rfl)
    try simp only [Act.put, List.setIfInBounds_toArray, List.set_cons_zero, List.set_cons_succ]
    refine held_take (i := 57) (v := ?_) rfl (by kernel_rfl) (by kernel_rfl) (by kernel_rfl) (fun _ _ _ h => h) (by rfl) hHeld ?y11_57 ?_
    case y11_57 => (intro w hSw; (try dsimp only at hSw); go_simp; try with_reducible rfl)
    try simp only [Act.put, List.setIfInBounds_toArray, List.set_cons_zero, List.set_cons_succ]
    refine held_take (i := 58) (v := ?_) rfl (by kernel_rfl) (by kernel_rfl) (by kernel_rfl) (fun _ _ _ h => h) (by rfl) hHeld ?y11_58 ?_
    case y11_58 => (intro w hSw; (try dsimp only at hSw); go_simp; try with_reducible rfl)
    try simp only [Act.put, List.setIfInBounds_toArray, List.set_cons_zero, List.set_cons_succ]
    refine held_take (i := 59) (v := ?_) rfl (by kernel_rfl) (by kernel_rfl) (by kernel_rfl) (fun _ _ _ h => h) (by rfl) hHeld ?y11_59 ?_
    case y11_59 => (intro w hSw; (try dsimp only at hSw); go_simp; try with_reducible rfl)
    try simp only [Act.put, List.setIfInBounds_toArray, List.set_cons_zero, List.set_cons_succ]
    refine held_take (i := 60) (v := ?_) rfl (by kernel_rfl) (by kernel_rfl) (by kernel_rfl) (fun _ _ _ h => h) (by rfl) hHeld ?y11_60 ?_
    case y11_60 => (intro w hSw; (try dsimp only at hSw); go_simp; try with_reducible rfl)
    try simp only [Act.put, List.setIfInBounds_toArray, List.set_cons_zero, List.set_cons_succ]
    refine held_take (i := 61) (v := ?_) rfl (by kernel_rfl) (by kernel_rfl) (by kernel_rfl) (fun _ _ _ h => h) (by rfl) hHeld ?y11_61 ?_
    case y11_61 => (intro w hSw; (try dsimp only at hSw); go_simp; try with_reducible rfl)
    try simp only [Act.put, List.setIfInBounds_toArray, List.set_cons_zero, List.set_cons_succ]
    refine held_take (i := 62) (v := ?_) rfl (by kernel_rfl) (by kernel_rfl) (by kernel_rfl) (fun _ _ _ h => h) (by rfl) hHeld ?y11_62 ?_
    case y11_62 => (intro w hSw; (try dsimp only at hSw); go_simp; try with_reducible rfl)
    try simp only [Act.put, List.setIfInBounds_toArray, List.set_cons_zero, List.set_cons_succ]
    refine held_take (i := 63) (v := ?_) rfl (by kernel_rfl) (by kernel_rfl) (by kernel_rfl) (fun _ _ _ h => h) (by rfl) hHeld ?y11_63 ?_
    case y11_63 => (intro w hSw; (try dsimp only at hSw); go_simp; try with_reducible rfl)
    try simp only [Act.put, List.setIfInBounds_toArray, List.set_cons_zero, List.set_cons_succ]
    refine held_take (i := 64) (v := ?_) rfl (by kernel_rfl) (by kernel_rfl) (by kernel_rfl) (fun _ _ _ h => h) (by rfl) hHeld ?y11_64 ?_
    case y11_64 => (intro w hSw; (try dsimp only at hSw); go_simp; try with_reducible rfl)
    try simp only [Act.put, List.setIfInBounds_toArray, List.set_cons_zero, List.set_cons_succ]
    refine held_take (i := 65) (v := ?_) rfl (by kernel_rfl) (by kernel_rfl) (by kernel_rfl) (fun _ _ _ h => h) (by rfl) hHeld ?y11_65 ?_
    case y11_65 => (intro w hSw; (try dsimp only at hSw); go_simp; try with_reducible rfl)
    try simp only [Act.put, List.setIfInBounds_toArray, List.set_cons_zero, List.set_cons_succ]
    refine held_off (i := 66) rfl (by kernel_rfl) (by kernel_rfl) (by kernel_rfl) (fun _ _ _ h => h) (by rfl) hHeld ?_
    try simp only [Act.put, List.setIfInBounds_toArray, List.set_cons_zero, List.set_cons_succ]
    refine held_off (i := 67) rfl (by kernel_rfl) (by kernel_rfl) (by kernel_rfl) (fun _ _ _ h => h) (by rfl) hHeld ?_
    try simp only [Act.put, List.setIfInBounds_toArray, List.set_cons_zero, List.set_cons_succ]
    refine held_take (i := 68) (v := ?_) rfl (by kernel_rfl) (by kernel_rfl) (by kernel_rfl) (fun _ _ _ h => h) (by rfl) hHeld ?y11_68 ?_
    case y11_68 => (intro w hSw; (try dsimp only at hSw); go_simp; try with_reducible rfl)
    try simp only [Act.put, List.setIfInBounds_toArray, List.set_cons_zero, List.set_cons_succ]
    refine held_take (i := 69) (v := ?_) rfl (by kernel_rfl) (by kernel_rfl) (by kernel_rfl) (fun _ _ _ h => h) (by rfl) hHeld ?y11_69 ?_
    case y11_69 => (intro w hSw; (try dsimp only at hSw); go_simp; try with_reducible rfl)
    try simp only [Act.put, List.setIfInBounds_toArray, List.set_cons_zero, List.set_cons_succ]
    refine held_take (i := 70) (v := ?_) rfl (by kernel_rfl) (by kernel_rfl) (by kernel_rfl) (fun _ _ _ h => h) (by rfl) hHeld ?y11_70 ?_
    case y11_70 => (intro w hSw; (try dsimp only at hSw); go_simp; try with_reducible rfl)
    try simp only [Act.put, List.setIfInBounds_toArray, List.set_cons_zero, List.set_cons_succ]
    refine held_take (i := 71) (v := ?_) rfl (by kernel_rfl) (by kernel_rfl) (by kernel_rfl) (fun _ _ _ h => h) (by rfl) hHeld ?y11_71 ?_
    case y11_71 => (intro w hSw; (try dsimp only at hSw); go_simp; try with_reducible rfl)
    try simp only [Act.put, List.setIfInBounds_toArray, List.set_cons_zero, List.set_cons_succ]
    refine held_take (i := 72) (v := ?_) rfl (by kernel_rfl) (by kernel_rfl) (by kernel_rfl) (fun _ _ _ h => h) (by rfl) hHeld ?y11_72 ?_
    case y11_72 => (intro w hSw; (try dsimp only at hSw); go_simp; try with_reducible rfl)
    try simp only [Act.put, List.setIfInBounds_toArray, List.set_cons_zero, List.set_cons_succ]
    refine held_take (i := 73) (v := ?_) rfl (by kernel_rfl) (by kernel_rfl) (by kernel_rfl) (fun _ _ _ h => h) (by rfl) hHeld ?y11_73 ?_
    case y11_73 => (intro w hSw; (try dsimp only at hSw); go_simp; try with_reducible rfl)
    try simp only [Act.put, List.setIfInBounds_toArray, List.set_cons_zero, List.set_cons_succ]
    refine held_take (i := 74) (v := ?_) rfl (by kernel_rfl) (by kernel_rfl) (by kernel_rfl) (fun _ _ _ h => h) (by rfl) hHeld ?y11_74 ?_
    case y11_74 => (intro w hSw; (try dsimp only at hSw); go_simp; try with_reducible rfl)
    try simp only [Act.put, List.setIfInBounds_toArray, List.set_cons_zero, List.set_cons_succ]
    refine held_take (i := 75) (v := ?_) rfl (by kernel_rfl) (by kernel_rfl) (by kernel_rfl) (fun _ _ _ h => h) (by rfl) hHeld ?y11_75 ?_
    case y11_75 => (intro w hSw; (try dsimp only at hSw); go_simp; try with_reducible rfl)
    try simp only [Act.put, List.setIfInBounds_toArray, List.set_cons_zero, List.set_cons_succ]
    refine held_take (i := 76) (v := ?_) rfl (by kernel_rfl) (by kernel_rfl) (by kernel_rfl) (fun _ _ _ h => h) (by rfl) hHeld ?y11_76 ?_
    case y11_76 => (intro w hSw; (try dsimp only at hSw); go_simp; try with_reducible rfl)
    try simp only [Act.put, List.setIfInBounds_toArray, List.set_cons_zero, List.set_cons_succ]
    refine held_take (i := 77) (v := ?_) rfl (by kernel_rfl) (by kernel_rfl) (by kernel_rfl) (fun _ _ _ h => h) (by rfl) hHeld ?y11_77 ?_
    case y11_77 => (intro w hSw; (try dsimp only at hSw); go_simp; try with_reducible rfl)
    try simp only [Act.put, List.setIfInBounds_toArray, List.set_cons_zero, List.set_cons_succ]
    refine wpAnyH_done (by kernel_rfl) ?_ _
    refine NoPanic.normal ?_
    go_wp2
    go_ret
    exact ⟨rfl, HB8.out.trans ((HB15.trans (hHeld.1.mono HB15.size)).mono HB8.out.size)⟩
  · refine wp_region_noPanic ?_
    refine wp_region_held_drew (S := fun W => Below w8.heap.size w8 W ∧ (convert 22 9 (.slice A3 X.length c3)).run Try.prog W = .ok (.string (strOfNums X)) W ∧ (convert 22 9 (.slice A4 X.length c4)).run Try.prog W = .ok (.string (strOfNums X)) W ∧ (convert 22 9 (.slice B3 R.length d3)).run Try.prog W = .ok (.string (strOfNums R)) W ∧ (convert 22 9 (.slice B4 R.length d4)).run Try.prog W = .ok (.string (strOfNums R)) W ∧ (convert 22 9 (.slice A7 U.length c7)).run Try.prog W = .ok (.string (strOfNums U)) W ∧ (convert 22 9 (.slice A8 U.length c8)).run Try.prog W = .ok (.string (strOfNums U)) W) (by kernel_rfl) (SS _ (Below.refl _ _).drew) (fun hHeld => ?_)
    refine held_take (i := 0) (v := ?_) rfl (by kernel_rfl) (by kernel_rfl) (by kernel_rfl) (fun _ _ _ h => h) (by rfl) hHeld ?y11_0 ?_
    case y11_0 => (intro w hSw; (try dsimp only at hSw); go_simp; try with_reducible rfl)
    try simp only [Act.put, List.setIfInBounds_toArray, List.set_cons_zero, List.set_cons_succ]
    refine held_take (i := 3) (v := ?_) rfl (by kernel_rfl) (by kernel_rfl) (by kernel_rfl) (fun _ _ _ h => h) (by rfl) hHeld ?y11_3 ?_
    case y11_3 => (intro w hSw; (try dsimp only at hSw); go_simp; try with_reducible rfl)
    try simp only [Act.put, List.setIfInBounds_toArray, List.set_cons_zero, List.set_cons_succ]
    refine held_one (i := 1) (by kernel_rfl) rfl (fun K hK => ?_)
    (refine step_call (by rfl) _ _ (by rfl) Try.func27 (by kernel_rfl) (by kernel_rfl) (by simp only [List.map_toArray, List.map_cons, List.map_nil]; rfl) ((HF1.out _ (Hr0.out.below hHeld.1)).mono ?_); rintro e w11 ⟨v11, rfl, ho11, hb11⟩; obtain ⟨A11, c11, rfl, hc11, hr11⟩ := ho11.rd; have HB11 := hHeld.1.trans (hb11.mono hHeld.1.size); have hS1 := SS _ HB11; refine ⟨_, rfl, ?_⟩)
    refine hK.out _ _ ?_ (fun hHeld => ?_)
    · exact hS1
    clear hK K
    try simp only [Act.put, List.setIfInBounds_toArray, List.set_cons_zero, List.set_cons_succ]
    have SS1 := fun W (h : Below w11.heap.size w11 W) => (⟨h, conv_bytes_string (P := Try.prog) 22 5 9 Try.underlying22 Try.underlying5 Try.underlying9 (hr11.below h) c11, (SS W (HB11.trans (h.mono HB11.size))).2⟩ : Below w11.heap.size w11 W ∧ (convert 22 9 (.slice A11 F.length c11)).run Try.prog W = .ok (.string (strOfNums F)) W ∧ (convert 22 9 (.slice A3 X.length c3)).run Try.prog W = .ok (.string (strOfNums X)) W ∧ (convert 22 9 (.slice A4 X.length c4)).run Try.prog W = .ok (.string (strOfNums X)) W ∧ (convert 22 9 (.slice B3 R.length d3)).run Try.prog W = .ok (.string (strOfNums R)) W ∧ (convert 22 9 (.slice B4 R.length d4)).run Try.prog W = .ok (.string (strOfNums R)) W ∧ (convert 22 9 (.slice A7 U.length c7)).run Try.prog W = .ok (.string (strOfNums U)) W ∧ (convert 22 9 (.slice A8 U.length c8)).run Try.prog W = .ok (.string (strOfNums U)) W)
    refine held_rebase (S' := fun W => Below w11.heap.size w11 W ∧ (convert 22 9 (.slice A11 F.length c11)).run Try.prog W = .ok (.string (strOfNums F)) W ∧ (convert 22 9 (.slice A3 X.length c3)).run Try.prog W = .ok (.string (strOfNums X)) W ∧ (convert 22 9 (.slice A4 X.length c4)).run Try.prog W = .ok (.string (strOfNums X)) W ∧ (convert 22 9 (.slice B3 R.length d3)).run Try.prog W = .ok (.string (strOfNums R)) W ∧ (convert 22 9 (.slice B4 R.length d4)).run Try.prog W = .ok (.string (strOfNums R)) W ∧ (convert 22 9 (.slice A7 U.length c7)).run Try.prog W = .ok (.string (strOfNums U)) W ∧ (convert 22 9 (.slice A8 U.length c8)).run Try.prog W = .ok (.string (strOfNums U)) W) (fun W h => SS W (HB11.trans (h.1.mono HB11.size))) _ _ _ _ ?_
    replace hHeld := SS1 _ (Below.refl _ _)
    clear hS1 ho11 hb11 hr11
    refine held_take (i := 2) (v := ?_) rfl (by kernel_rfl) (by kernel_rfl) (by kernel_rfl) (fun _ _ _ h => h) (by rfl) hHeld ?y11_2 ?_
    case y11_2 => (intro w hSw; (try dsimp only at hSw); go_simp; try with_reducible rfl)
    try simp only [Act.put, List.setIfInBounds_toArray, List.set_cons_zero, List.set_cons_succ]
    refine held_one (i := 4) (by kernel_rfl) rfl (fun K hK => ?_)
    (refine step_call (by rfl) _ _ (by rfl) Try.func36 (by kernel_rfl) (by kernel_rfl) (by simp only [List.map_toArray, List.map_cons, List.map_nil]; rfl) ((HF2.out _ (Hr0.out.below (HB11.trans (hHeld.1.mono HB11.size)))).mono ?_); rintro e w12 ⟨v12, rfl, ho12, hb12⟩; obtain ⟨A12, c12, rfl, hc12, hr12⟩ := ho12.rd; have HC12 := hHeld.1.trans (hb12.mono hHeld.1.size); have hS4 := SS1 _ HC12; refine ⟨_, rfl, ?_⟩)
    refine hK.out _ _ ?_ (fun hHeld => ?_)
    · exact hS4
    clear hK K
    try simp only [Act.put, List.setIfInBounds_toArray, List.set_cons_zero, List.set_cons_succ]
    have SS2 := fun W (h : Below w12.heap.size w12 W) => (⟨h, conv_bytes_string (P := Try.prog) 22 5 9 Try.underlying22 Try.underlying5 Try.underlying9 (hr12.below h) c12, (SS1 W (HC12.trans (h.mono HC12.size))).2⟩ : Below w12.heap.size w12 W ∧ (convert 22 9 (.slice A12 F.length c12)).run Try.prog W = .ok (.string (strOfNums F)) W ∧ (convert 22 9 (.slice A11 F.length c11)).run Try.prog W = .ok (.string (strOfNums F)) W ∧ (convert 22 9 (.slice A3 X.length c3)).run Try.prog W = .ok (.string (strOfNums X)) W ∧ (convert 22 9 (.slice A4 X.length c4)).run Try.prog W = .ok (.string (strOfNums X)) W ∧ (convert 22 9 (.slice B3 R.length d3)).run Try.prog W = .ok (.string (strOfNums R)) W ∧ (convert 22 9 (.slice B4 R.length d4)).run Try.prog W = .ok (.string (strOfNums R)) W ∧ (convert 22 9 (.slice A7 U.length c7)).run Try.prog W = .ok (.string (strOfNums U)) W ∧ (convert 22 9 (.slice A8 U.length c8)).run Try.prog W = .ok (.string (strOfNums U)) W)
    refine held_rebase (S' := fun W => Below w12.heap.size w12 W ∧ (convert 22 9 (.slice A12 F.length c12)).run Try.prog W = .ok (.string (strOfNums F)) W ∧ (convert 22 9 (.slice A11 F.length c11)).run Try.prog W = .ok (.string (strOfNums F)) W ∧ (convert 22 9 (.slice A3 X.length c3)).run Try.prog W = .ok (.string (strOfNums X)) W ∧ (convert 22 9 (.slice A4 X.length c4)).run Try.prog W = .ok (.string (strOfNums X)) W ∧ (convert 22 9 (.slice B3 R.length d3)).run Try.prog W = .ok (.string (strOfNums R)) W ∧ (convert 22 9 (.slice B4 R.length d4)).run Try.prog W = .ok (.string (strOfNums R)) W ∧ (convert 22 9 (.slice A7 U.length c7)).run Try.prog W = .ok (.string (strOfNums U)) W ∧ (convert 22 9 (.slice A8 U.length c8)).run Try.prog W = .ok (.string (strOfNums U)) W) (fun W h => SS1 W (HC12.trans (h.1.mono HC12.size))) _ _ _ _ ?_
    replace hHeld := SS2 _ (Below.refl _ _)
    have HB12 := HB11.trans (HC12.mono HB11.size)
    clear hS4 ho12 hb12 hr12
    refine held_take (i := 5) (v := ?_) rfl (by kernel_rfl) (by kernel_rfl) (by kernel_rfl) (fun _ _ _ h => h) (by rfl) hHeld ?y11_5 ?_
    case y11_5 => (intro w hSw; (try dsimp only at hSw); go_simp; try with_reducible rfl)
    try simp only [Act.put, List.setIfInBounds_toArray, List.set_cons_zero, List.set_cons_succ]
    refine held_take (i := 6) (v := ?_) rfl (by kernel_rfl) (by kernel_rfl) (by kernel_rfl) (fun _ _ _ h => h) (by rfl) hHeld ?y11_6 ?_
    case y11_6 => (intro w hSw; (try dsimp only at hSw); go_simp; try with_reducible rfl)
    try simp only [Act.put, List.setIfInBounds_toArray, List.set_cons_zero, List.set_cons_succ]
    refine held_take (i := 7) (v := ?_) rfl (by kernel_rfl) (by kernel_rfl) (by kernel_rfl) (fun _ _ _ h => h) (by rfl) hHeld ?y11_7 ?_
    case y11_7 => (intro w hSw; (try dsimp only at hSw); go_simp; try with_reducible rfl)
    try simp only [Act.put, List.setIfInBounds_toArray, List.set_cons_zero, List.set_cons_succ]
    refine held_take (i := 8) (v := ?_) rfl (by kernel_rfl) (by kernel_rfl) (by kernel_rfl) (fun _ _ _ h => h) (by rfl) hHeld ?y11_8 ?_
    case y11_8 => (intro w hSw; (try dsimp only at hSw); go_simp; try with_reducible rfl)
    try simp only [Act.put, List.setIfInBounds_toArray, List.set_cons_zero, List.set_cons_succ]
    refine held_take (i := 9) (v := ?_) rfl (by kernel_rfl) (by kernel_rfl) (by kernel_rfl) (fun _ _ _ h => h) (by rfl) hHeld ?y11_9 ?_
    case y11_9 => (intro w hSw; (try dsimp only at hSw); go_simp; try with_reducible rfl)
    try simp only [Act.put, List.setIfInBounds_toArray, List.set_cons_zero, List.set_cons_succ]
    refine held_take (i := 10) (v := ?_) rfl (by kernel_rfl) (by kernel_rfl) (by kernel_rfl) (fun _ _ _ h => h) (by rfl) hHeld ?y11_10 ?_
    case y11_10 => (intro w hSw; (try dsimp only at hSw); go_simp; try with_reducible rfl)
    try simp only [Act.put, List.setIfInBounds_toArray, List.set_cons_zero, List.set_cons_succ]
    refine held_take (i := 11) (v := ?_) rfl (by kernel_rfl) (by kernel_rfl) (by kernel_rfl) (fun _ _ _ h => h) (by rfl) hHeld ?y11_11 ?_
    case y11_11 => (intro w hSw; (try dsimp only at hSw); go_simp; try with_reducible rfl)
    try simp only [Act.put, List.setIfInBounds_toArray, List.set_cons_zero, List.set_cons_succ]
    refine held_take (i := 12) (v := ?_) rfl (by kernel_rfl) (by kernel_rfl) (by kernel_rfl) (fun _ _ _ h => h) (by rfl) hHeld ?y11_12 ?_
    case y11_12 => (intro w hSw; (try dsimp only at hSw); go_simp; try with_reducible rfl)
    try simp only [Act.put, List.setIfInBounds_toArray, List.set_cons_zero, List.set_cons_succ]
    refine held_take (i := 13) (v := ?_) rfl (by kernel_rfl) (by kernel_rfl) (by kernel_rfl) (fun _ _ _ h => h) (by rfl) hHeld ?y11_13 ?_
    case y11_13 => (intro w hSw; (try dsimp only at hSw); go_simp; try with_reducible rfl)
    try simp only [Act.put, List.setIfInBounds_toArray, List.set_cons_zero, List.set_cons_succ]
    refine held_take (i := 14) (v := ?_) rfl (by kernel_rfl) (by kernel_rfl) (by kernel_rfl) (fun _ _ _ h => h) (by rfl) hHeld ?y11_14 ?_
    case y11_14 => (intro w hSw; (try dsimp only at hSw); go_simp; try with_reducible rfl)
    try simp only [Act.put, List.setIfInBounds_toArray, List.set_cons_zero, List.set_cons_succ]
    refine held_take (i := 15) (v := ?_) rfl (by kernel_rfl) (by kernel_rfl) (by kernel_rfl) (fun _ _ _ h => h) (by rfl) hHeld ?y11_15 ?_
    case y11_15 => (intro w hSw; (try dsimp only at hSw); go_simp; try with_reducible rfl)
    try simp only [Act.put, List.setIfInBounds_toArray, List.set_cons_zero, List.set_cons_succ]
    refine held_take (i := 16) (v := ?_) rfl (by kernel_rfl) (by kernel_rfl) (by kernel_rfl) (fun _ _ _ h => h) (by rfl) hHeld ?y11_16 ?_
    case y11_16 => (intro w hSw; (try dsimp only at hSw); go_simp; try with_reducible rfl)
    try simp only [Act.put, List.setIfInBounds_toArray, List.set_cons_zero, List.set_cons_succ]
    refine held_off (i := 17) rfl (by kernel_rfl) (by kernel_rfl) (by kernel_rfl) (fun _ _ _ h => h) (by rfl) hHeld ?_
    try simp only [Act.put, List.setIfInBounds_toArray, List.set_cons_zero, List.set_cons_succ]
    refine held_off (i := 18) rfl (by kernel_rfl) (by kernel_rfl) (by kernel_rfl) (fun _ _ _ h => h) (by rfl) hHeld ?_
    try simp only [Act.put, List.setIfInBounds_toArray, List.set_cons_zero, List.set_cons_succ]
    refine held_take (i := 19) (v := ?_) rfl (by kernel_rfl) (by kernel_rfl) (by kernel_rfl) (fun _ _ _ h => h) (by rfl) hHeld ?y11_19 ?_
    case y11_19 => (intro w hSw; (try dsimp only at hSw); go_simp; try with_reducible rfl)
    try simp only [Act.put, List.setIfInBounds_toArray, List.set_cons_zero, List.set_cons_succ]
    refine held_take (i := 20) (v := ?_) rfl (by kernel_rfl) (by kernel_rfl) (by kernel_rfl) (fun _ _ _ h => h) (by rfl) hHeld ?y11_20 ?_
    case y11_20 => (intro w hSw; (try dsimp only at hSw); go_simp; try with_reducible rfl)
    try simp only [Act.put, List.setIfInBounds_toArray, List.set_cons_zero, List.set_cons_succ]
    refine held_take (i := 21) (v := ?_) rfl (by kernel_rfl) (by kernel_rfl) (by kernel_rfl) (fun _ _ _ h => h) (by rfl) hHeld ?y11_21 ?_
    case y11_21 => (intro w hSw; (try dsimp only at hSw); go_simp; try with_reducible rfl)
    try simp only [Act.put, List.setIfInBounds_toArray, List.set_cons_zero, List.set_cons_succ]
    refine held_take (i := 22) (v := ?_) rfl (by kernel_rfl) (by kernel_rfl) (by kernel_rfl) (fun _ _ _ h => h) (by rfl) hHeld ?y11_22 ?_
    case y11_22 => (intro w hSw; (try dsimp only at hSw); go_simp; try with_reducible rfl)
    try simp only [Act.put, List.setIfInBounds_toArray, List.set_cons_zero, List.set_cons_succ]
    refine held_take (i := 23) (v := ?_) rfl (by kernel_rfl) (by kernel_rfl) (by kernel_rfl) (fun _ _ _ h => h) (by rfl) hHeld ?y11_23 ?_
    case y11_23 => (intro w hSw; (try dsimp only at hSw); go_simp; try with_reducible rfl)
    try simp only [Act.put, List.setIfInBounds_toArray, List.set_cons_zero, List.set_cons_succ]
    refine held_take (i := 24) (v := ?_) rfl (by kernel_rfl) (by kernel_rfl) (by kernel_rfl) (fun _ _ _ h => h) (by rfl) hHeld ?y11_24 ?_
    case y11_24 => (intro w hSw; (try dsimp only at hSw); go_simp; try with_reducible rfl)
    try simp only [Act.put, List.setIfInBounds_toArray, List.set_cons_zero, List.set_cons_succ]
    refine held_take (i := 25) (v := ?_) rfl (by kernel_rfl) (by kernel_rfl) (by kernel_rfl) (fun _ _ _ h => h) (by rfl) hHeld ?y11_25 ?_
    case y11_25 => (intro w hSw; (try dsimp only at hSw); go_simp; try with_reducible rfl)
    try simp only [Act.put, List.setIfInBounds_toArray, List.set_cons_zero, List.set_cons_succ]
    refine held_take (i := 26) (v := ?_) rfl (by kernel_rfl) (by kernel_rfl) (by kernel_rfl) (fun _ _ _ h => h) (by rfl) hHeld ?y11_26 ?_
    case y11_26 => (intro w hSw; (try dsimp only at hSw); go_simp; try with_reducible rfl)
    try simp only [Act.put, List.setIfInBounds_toArray, List.set_cons_zero, List.set_cons_succ]
    refine held_take (i := 27) (v := ?_) rfl (by kernel_rfl) (by kernel_rfl) (by kernel_rfl) (fun _ _ _ h => h) (by rfl) hHeld ?y11_27 ?_
    case y11_27 => (intro w hSw; (try dsimp only at hSw); go_simp; try with_reducible rfl)
    try simp only [Act.put, List.setIfInBounds_toArray, List.set_cons_zero, List.set_cons_succ]
    refine held_take (i := 28) (v := ?_) rfl (by kernel_rfl) (by kernel_rfl) (by kernel_rfl) (fun _ _ _ h => h) (by rfl) hHeld ?y11_28 ?_
    case y11_28 => (intro w hSw; (try dsimp only at hSw); go_simp; try with_reducible rfl)
    try simp only [Act.put, List.setIfInBounds_toArray, List.set_cons_zero, List.set_cons_succ]
    refine held_take (i := 29) (v := ?_) rfl (by kernel_rfl) (by kernel_rfl) (by kernel_rfl) (fun _ _ _ h => h) (by rfl) hHeld ?y11_29 ?_
    case y11_29 => (intro w hSw; (try dsimp only at hSw); go_simp; try with_reducible rfl)
    try simp only [Act.put, List.setIfInBounds_toArray, List.set_cons_zero, List.set_cons_succ]
    refine held_take (i := 30) (v := ?_) rfl (by kernel_rfl) (by kernel_rfl) (by kernel_rfl) (fun _ _ _ h => h) (by rfl) hHeld ?y11_30 ?_
    case y11_30 => (intro w hSw; (try dsimp only at hSw); go_simp; try with_reducible rfl)
    try simp only [Act.put, List.setIfInBounds_toArray, List.set_cons_zero, List.set_cons_succ]
    refine held_take (i := 31) (v := ?_) rfl (by kernel_rfl) (by kernel_rfl) (by kernel_rfl) (fun _ _ _ h => h) (by rfl) hHeld ?y11_31 ?_
    case y11_31 => (intro w hSw; (try dsimp only at hSw); go_simp; try with_reducible rfl)
    try simp only [Act.put, List.setIfInBounds_toArray, List.set_cons_zero, List.set_cons_succ]
    refine held_take (i := 32) (v := ?_) rfl (by kernel_rfl) (by kernel_rfl) (by kernel_rfl) (fun _ _ _ h => h) (by rfl) hHeld ?y11_32 ?_
    case y11_32 => (intro w hSw; (try dsimp only at hSw); go_simp; try with_reducible rfl)
    try simp only [Act.put, List.setIfInBounds_toArray, List.set_cons_zero, List.set_cons_succ]
    refine held_take (i := 33) (v := ?_) rfl (by kernel_rfl) (by kernel_rfl) (by kernel_rfl) (fun _ _ _ h => h) (by rfl) hHeld ?y11_33 ?_
    case y11_33 => (intro w hSw; (try dsimp only at hSw); go_simp; try with_reducible rfl)
    try simp only [Act.put, List.setIfInBounds_toArray, List.set_cons_zero, List.set_cons_succ]
    refine held_take (i := 34) (v := ?_) rfl (by kernel_rfl) (by kernel_rfl) (by kernel_rfl) (fun _ _ _ h => h) (by rfl) hHeld ?y11_34 ?_
    case y11_34 => (intro w hSw; (try dsimp only at hSw); go_simp; try with_reducible rfl)
    try simp only [Act.put, List.setIfInBounds_toArray, List.set_cons_zero, List.set_cons_succ]
    refine held_take (i := 35) (v := ?_) rfl (by kernel_rfl) (by kernel_rfl) (by kernel_rfl) (fun _ _ _ h => h) (by rfl) hHeld ?y11_35 ?_
    case y11_35 => (intro w hSw; (try dsimp only at hSw); go_simp; try with_reducible rfl)
    try simp only [Act.put, List.setIfInBounds_toArray, List.set_cons_zero, List.set_cons_succ]
    refine held_take (i := 36) (v := ?_) rfl (by kernel_rfl) (by kernel_rfl) (by kernel_rfl) (fun _ _ _ h => h) (by rfl) hHeld ?y11_36 ?_
    case y11_36 => (intro w hSw; (try dsimp only at hSw); go_simp; try with_reducible rfl)
    try simp only [Act.put, List.setIfInBounds_toArray, List.set_cons_zero, List.set_cons_succ]
    refine held_take (i := 37) (v := ?_) rfl (by kernel_rfl) (by kernel_rfl) (by kernel_rfl) (fun _ _ _ h => h) (by rfl) hHeld ?y11_37 ?_
    case y11_37 => (intro w hSw; (try dsimp only at hSw); go_simp; try with_reducible rfl)
    try simp only [Act.put, List.setIfInBounds_toArray, List.set_cons_zero, List.set_cons_succ]
    refine held_one (i := 38) (by kernel_rfl) rfl (fun K hK => ?_)
    (refine step_call (by rfl) _ _ (by rfl) Try.func32 (by kernel_rfl) (by kernel_rfl) (by simp only [List.map_toArray, List.map_cons, List.map_nil]; rfl) ((HTX.out _ (HB12.trans (hHeld.1.mono HB12.size))).mono ?_); rintro e w13 ⟨rfl, hb13⟩; have hS38 := SS2 _ (hHeld.1.trans (hb13.mono hHeld.1.size)); refine ⟨_, rfl, ?_⟩)
    refine hK.out _ _ ?_ (fun hHeld => ?_)
    · exact hS38
    clear hK K
    try simp only [Act.put, List.setIfInBounds_toArray, List.set_cons_zero, List.set_cons_succ]
    clear hS38 hb13
    refine held_take (i := 39) (v := ?_) rfl (by kernel_rfl) (by kernel_rfl) (by kernel_rfl) (fun _ _ _ h => h) (by rfl) hHeld ?y11_39 ?_
    case y11_39 => (intro w hSw; (try dsimp only at hSw); go_simp; try with_reducible rfl)
    try simp only [Act.put, List.setIfInBounds_toArray, List.set_cons_zero, List.set_cons_succ]
    refine held_take (i := 40) (v := ?_) rfl (by kernel_rfl) (by kernel_rfl) (by kernel_rfl) (fun _ _ _ h => h) (by rfl) hHeld ?y11_40 ?_
    case y11_40 => (intro w hSw; (try dsimp only at hSw); go_simp; try with_reducible rfl)
    try simp only [Act.put, List.setIfInBounds_toArray, List.set_cons_zero, List.set_cons_succ]
    refine held_take (i := 41) (v := ?_) rfl (by kernel_rfl) (by kernel_rfl) (by kernel_rfl) (fun _ _ _ h => h) (by rfl) hHeld ?y11_41 ?_
    case y11_41 => (intro w hSw; (try dsimp only at hSw); go_simp; try with_reducible rfl)
    try simp only [Act.put, List.setIfInBounds_toArray, List.set_cons_zero, List.set_cons_succ]
    refine held_take (i := 42) (v := ?_) rfl (by kernel_rfl) (by kernel_rfl) (by kernel_rfl) (fun _ _ _ h => h) (by rfl) hHeld ?y11_42 ?_
    case y11_42 => (intro w hSw; (try dsimp only at hSw); go_simp; try with_reducible rfl)
    try simp only [Act.put, List.setIfInBounds_toArray, List.set_cons_zero, List.set_cons_succ]
    refine held_take (i := 43) (v := ?_) rfl (by kernel_rfl) (by kernel_rfl) (by kernel_rfl) (fun _ _ _ h => h) (by rfl) hHeld ?y11_43 ?_
    case y11_43 => (intro w hSw; (try dsimp only at hSw); go_simp; try with_reducible rfl)
    try simp only [Act.put, List.setIfInBounds_toArray, List.set_cons_zero, List.set_cons_succ]
    refine held_take (i := 44) (v := ?_) rfl (by kernel_rfl) (by kernel_rfl) (by kernel_rfl) (fun _ _ _ h => h) (by rfl) hHeld ?y11_44 ?_
    case y11_44 => (intro w hSw; (try dsimp only at hSw); go_simp; try with_reducible rfl)
    try simp only [Act.put, List.setIfInBounds_toArray, List.set_cons_zero, List.set_cons_succ]
    refine held_take (i := 45) (v := ?_) rfl (by kernel_rfl) (by kernel_rfl) (by kernel_rfl) (fun _ _ _ h => h) (by rfl) hHeld ?y11_45 ?_
    case y11_45 => (intro w hSw; (try dsimp only at hSw); go_simp; try with_reducible rfl)
    try simp only [Act.put, List.setIfInBounds_toArray, List.set_cons_zero, List.set_cons_succ]
    refine held_take (i := 46) (v := ?_) rfl (by kernel_rfl) (by kernel_rfl) (by kernel_rfl) (fun _ _ _ h => h) (by rfl) hHeld ?y11_46 ?_
    case y11_46 => (intro w hSw; (try dsimp only at hSw); go_simp; try with_reducible rfl)
    try simp only [Act.put, List.setIfInBounds_toArray, List.set_cons_zero, List.set_cons_succ]
    refine held_take (i := 47) (v := ?_) rfl (by kernel_rfl) (by kernel_rfl) (by kernel_rfl) (fun _ _ _ h => h) (by rfl) hHeld ?y11_47 ?_
    case y11_47 => (intro w hSw; (try dsimp only at hSw); go_simp; try with_reducible rfl)
    try simp only [Act.put, List.setIfInBounds_toArray, List.set_cons_zero, List.set_cons_succ]
    refine held_take (i := 50) (v := ?_) rfl (by kernel_rfl) (by kernel_rfl) (by kernel_rfl) (fun _ _ _ h => h) (by rfl) hHeld ?y11_50 ?_
    case y11_50 => (intro w hSw; (try dsimp only at hSw); go_simp; try with_reducible rfl)
    try simp only [Act.put, List.setIfInBounds_toArray, List.set_cons_zero, List.set_cons_succ]
    refine held_take (i := 51) (v := ?_) rfl (by kernel_rfl) (by kernel_rfl) (by kernel_rfl) (fun _ _ _ h => h) (by rfl) hHeld ?y11_51 ?_
    case y11_51 => (intro w hSw; (try dsimp only at hSw); go_simp; try with_reducible rfl)
    try simp only [Act.put, List.setIfInBounds_toArray, List.set_cons_zero, List.set_cons_succ]
    refine held_one (i := 48) (by kernel_rfl) rfl (fun K hK => ?_)
    (refine step_call (by rfl) _ _ (by rfl) Try.func29 (by kernel_rfl) (by kernel_rfl) (by simp only [List.map_toArray, List.map_cons, List.map_nil]; rfl) ((HG1.out _ (Hr0.out.below (HB12.trans (hHeld.1.mono HB12.size)))).mono ?_); rintro e w14 ⟨v14, rfl, ho14, hb14⟩; obtain ⟨A14, c14, rfl, hc14, hr14⟩ := ho14.rd; have HC14 := hHeld.1.trans (hb14.mono hHeld.1.size); have hS48 := SS2 _ HC14; refine ⟨_, rfl, ?_⟩)
    refine hK.out _ _ ?_ (fun hHeld => ?_)
    · exact hS48
    clear hK K
    try simp only [Act.put, List.setIfInBounds_toArray, List.set_cons_zero, List.set_cons_succ]
    have SS3 := fun W (h : Below w14.heap.size w14 W) => (⟨h, conv_bytes_string (P := Try.prog) 22 5 9 Try.underlying22 Try.underlying5 Try.underlying9 (hr14.below h) c14, (SS2 W (HC14.trans (h.mono HC14.size))).2⟩ : Below w14.heap.size w14 W ∧ (convert 22 9 (.slice A14 G.length c14)).run Try.prog W = .ok (.string (strOfNums G)) W ∧ (convert 22 9 (.slice A12 F.length c12)).run Try.prog W = .ok (.string (strOfNums F)) W ∧ (convert 22 9 (.slice A11 F.length c11)).run Try.prog W = .ok (.string (strOfNums F)) W ∧ (convert 22 9 (.slice A3 X.length c3)).run Try.prog W = .ok (.string (strOfNums X)) W ∧ (convert 22 9 (.slice A4 X.length c4)).run Try.prog W = .ok (.string (strOfNums X)) W ∧ (convert 22 9 (.slice B3 R.length d3)).run Try.prog W = .ok (.string (strOfNums R)) W ∧ (convert 22 9 (.slice B4 R.length d4)).run Try.prog W = .ok (.string (strOfNums R)) W ∧ (convert 22 9 (.slice A7 U.length c7)).run Try.prog W = .ok (.string (strOfNums U)) W ∧ (convert 22 9 (.slice A8 U.length c8)).run Try.prog W = .ok (.string (strOfNums U)) W)
    refine held_rebase (S' := fun W => Below w14.heap.size w14 W ∧ (convert 22 9 (.slice A14 G.length c14)).run Try.prog W = .ok (.string (strOfNums G)) W ∧ (convert 22 9 (.slice A12 F.length c12)).run Try.prog W = .ok (.string (strOfNums F)) W ∧ (convert 22 9 (.slice A11 F.length c11)).run Try.prog W = .ok (.string (strOfNums F)) W ∧ (convert 22 9 (.slice A3 X.length c3)).run Try.prog W = .ok (.string (strOfNums X)) W ∧ (convert 22 9 (.slice A4 X.length c4)).run Try.prog W = .ok (.string (strOfNums X)) W ∧ (convert 22 9 (.slice B3 R.length d3)).run Try.prog W = .ok (.string (strOfNums R)) W ∧ (convert 22 9 (.slice B4 R.length d4)).run Try.prog W = .ok (.string (strOfNums R)) W ∧ (convert 22 9 (.slice A7 U.length c7)).run Try.prog W = .ok (.string (strOfNums U)) W ∧ (convert 22 9 (.slice A8 U.length c8)).run Try.prog W = .ok (.string (strOfNums U)) W) (fun W h => SS2 W (HC14.trans (h.1.mono HC14.size))) _ _ _ _ ?_
    replace hHeld := SS3 _ (Below.refl _ _)
    have HB14 := HB12.trans (HC14.mono HB12.size)
    clear hS48 ho14 hb14 hr14
    refine held_take (i := 49) (v := ?_) rfl (by kernel_rfl) (by kernel_rfl) (by kernel_rfl) (fun _ _ _ h => h) (by rfl) hHeld ?y11_49 ?_
    case y11_49 => (intro w hSw; (try dsimp only at hSw); go_simp; try with_reducible rfl)
    try simp only [Act.put, List.setIfInBounds_toArray, List.set_cons_zero, List.set_cons_succ]
    refine held_one (i := 52) (by kernel_rfl) rfl (fun K hK => ?_)
    (refine step_call (by rfl) _ _ (by rfl) Try.func37 (by kernel_rfl) (by kernel_rfl) (by simp only [List.map_toArray, List.map_cons, List.map_nil]; rfl) ((HG2.out _ (Hr0.out.below (HB14.trans (hHeld.1.mono HB14.size)))).mono ?_); rintro e w15 ⟨v15, rfl, ho15, hb15⟩; obtain ⟨A15, c15, rfl, hc15, hr15⟩ := ho15.rd; have HC15 := hHeld.1.trans (hb15.mono hHeld.1.size); have hS52 := SS3 _ HC15; refine ⟨_, rfl, ?_⟩)
    refine hK.out _ _ ?_ (fun hHeld => ?_)
    · exact hS52
    clear hK K
    try simp only [Act.put, List.setIfInBounds_toArray, List.set_cons_zero, List.set_cons_succ]
    have SS4 := fun W (h : Below w15.heap.size w15 W) => (⟨h, conv_bytes_string (P := Try.prog) 22 5 9 Try.underlying22 Try.underlying5 Try.underlying9 (hr15.below h) c15, (SS3 W (HC15.trans (h.mono HC15.size))).2⟩ : Below w15.heap.size w15 W ∧ (convert 22 9 (.slice A15 G.length c15)).run Try.prog W = .ok (.string (strOfNums G)) W ∧ (convert 22 9 (.slice A14 G.length c14)).run Try.prog W = .ok (.string (strOfNums G)) W ∧ (convert 22 9 (.slice A12 F.length c12)).run Try.prog W = .ok (.string (strOfNums F)) W ∧ (convert 22 9 (.slice A11 F.length c11)).run Try.prog W = .ok (.string (strOfNums F)) W ∧ (convert 22 9 (.slice A3 X.length c3)).run Try.prog W = .ok (.string (strOfNums X)) W ∧ (convert 22 9 (.slice A4 X.length c4)).run Try.prog W = .ok (.string (strOfNums X)) W ∧ (convert 22 9 (.slice B3 R.length d3)).run Try.prog W = .ok (.string (strOfNums R)) W ∧ (convert 22 9 (.slice B4 R.length d4)).run Try.prog W = .ok (.string (strOfNums R)) W ∧ (convert 22 9 (.slice A7 U.length c7)).run Try.prog W = .ok (.string (strOfNums U)) W ∧ (convert 22 9 (.slice A8 U.length c8)).run Try.prog W = .ok (.string (strOfNums U)) W)
    refine held_rebase (S' := fun W => Below w15.heap.size w15 W ∧ (convert 22 9 (.slice A15 G.length c15)).run Try.prog W = .ok (.string (strOfNums G)) W ∧ (convert 22 9 (.slice A14 G.length c14)).run Try.prog W = .ok (.string (strOfNums G)) W ∧ (convert 22 9 (.slice A12 F.length c12)).run Try.prog W = .ok (.string (strOfNums F)) W ∧ (convert 22 9 (.slice A11 F.length c11)).run Try.prog W = .ok (.string (strOfNums F)) W ∧ (convert 22 9 (.slice A3 X.length c3)).run Try.prog W = .ok (.string (strOfNums X)) W ∧ (convert 22 9 (.slice A4 X.length c4)).run Try.prog W = .ok (.string (strOfNums X)) W ∧ (convert 22 9 (.slice B3 R.length d3)).run Try.prog W = .ok (.string (strOfNums R)) W ∧ (convert 22 9 (.slice B4 R.length d4)).run Try.prog W = .ok (.string (strOfNums R)) W ∧ (convert 22 9 (.slice A7 U.length c7)).run Try.prog W = .ok (.string (strOfNums U)) W ∧ (convert 22 9 (.slice A8 U.length c8)).run Try.prog W = .ok (.string (strOfNums U)) W) (fun W h => SS3 W (HC15.trans (h.1.mono HC15.size))) _ _ _ _ ?_
    replace hHeld := SS4 _ (Below.refl _ _)
    have HB15 := HB14.trans (HC15.mono HB14.size)
    clear hS52 ho15 hb15 hr15
    refine held_take (i := 53) (v := ?_) rfl (by kernel_rfl) (by kernel_rfl) (by kernel_rfl) (fun _ _ _ h => h) (by rfl) hHeld ?y11_53 ?_
    case y11_53 => (intro w hSw; (try dsimp only at hSw); go_simp; try with_reducible rfl)
    try simp only [Act.put, List.setIfInBounds_toArray, List.set_cons_zero, List.set_cons_succ]
    refine held_take (i := 54) (v := ?_) rfl (by kernel_rfl) (by kernel_rfl) (by kernel_rfl) (fun _ _ _ h => h) (by rfl) hHeld ?y11_54 ?_
    case y11_54 => (intro w hSw; (try dsimp only at hSw); go_simp; try with_reducible rfl)
    try simp only [Act.put, List.setIfInBounds_toArray, List.set_cons_zero, List.set_cons_succ]
    refine held_take (i := 55) (v := ?_) rfl (by kernel_rfl) (by kernel_rfl) (by kernel_rfl) (fun _ _ _ h => h) (by rfl) hHeld ?y11_55 ?_
    case y11_55 => (intro w hSw; (try dsimp only at hSw); go_simp; try with_reducible rfl)
    try simp only [Act.put, List.setIfInBounds_toArray, List.set_cons_zero, List.set_cons_succ]
    refine held_take (i := 56) (v := ?_) rfl (by kernel_rfl) (by kernel_rfl) (by kernel_rfl) (fun _ _ _ h => h) (by rfl) hHeld ?y11_56 ?_
    case y11_56 => (intro w hSw; (try dsimp only at hSw); go_simp; try with_reducible rfl)
    try simp only [Act.put, List.setIfInBounds_toArray, List.set_cons_zero, List.set_cons_succ]
    refine held_take (i := 57) (v := ?_) rfl (by kernel_rfl) (by kernel_rfl) (by kernel_rfl) (fun _ _ _ h => h) (by rfl) hHeld ?y11_57 ?_
    case y11_57 => (intro w hSw; (try dsimp only at hSw); go_simp; try with_reducible rfl)
    try simp only [Act.put, List.setIfInBounds_toArray, List.set_cons_zero, List.set_cons_succ]
    refine held_take (i := 58) (v := ?_) rfl (by kernel_rfl) (by kernel_rfl) (by kernel_rfl) (fun _ _ _ h => h) (by rfl) hHeld ?y11_58 ?_
    case y11_58 => (intro w hSw; (try dsimp only at hSw); go_simp; try with_reducible rfl)
    try simp only [Act.put, List.setIfInBounds_toArray, List.set_cons_zero, List.set_cons_succ]
    refine held_take (i := 59) (v := ?_) rfl (by kernel_rfl) (by kernel_rfl) (by kernel_rfl) (fun _ _ _ h => h) (by rfl) hHeld ?y11_59 ?_
    case y11_59 => (intro w hSw; (try dsimp only at hSw); go_simp; try with_reducible rfl)
    try simp only [Act.put, List.setIfInBounds_toArray, List.set_cons_zero, List.set_cons_succ]
    refine held_take (i := 60) (v := ?_) rfl (by kernel_rfl) (by kernel_rfl) (by kernel_rfl) (fun _ _ _ h => h) (by rfl) hHeld ?y11_60 ?_
    case y11_60 => (intro w hSw; (try dsimp only at hSw); go_simp; try with_reducible rfl)
    try simp only [Act.put, List.setIfInBounds_toArray, List.set_cons_zero, List.set_cons_succ]
    refine held_take (i := 61) (v := ?_) rfl (by kernel_rfl) (by kernel_rfl) (by kernel_rfl) (fun _ _ _ h => h) (by rfl) hHeld ?y11_61 ?_
    case y11_61 => (intro w hSw; (try dsimp only at hSw); go_simp; try with_reducible rfl)
    try simp only [Act.put, List.setIfInBounds_toArray, List.set_cons_zero, List.set_cons_succ]
    refine held_take (i := 62) (v := ?_) rfl (by kernel_rfl) (by kernel_rfl) (by kernel_rfl) (fun _ _ _ h => h) (by rfl) hHeld ?y11_62 ?_
    case y11_62 => (intro w hSw; (try dsimp only at hSw); go_simp; try with_reducible rfl)
    try simp only [Act.put, List.setIfInBounds_toArray, List.set_cons_zero, List.set_cons_succ]
    refine held_take (i := 63) (v := ?_) rfl (by kernel_rfl) (by kernel_rfl) (by kernel_rfl) (fun _ _ _ h => h) (by rfl) hHeld ?y11_63 ?_
    case y11_63 => (intro w hSw; (try dsimp only at hSw); go_simp; try with_reducible rfl)
    try simp only [Act.put, List.setIfInBounds_toArray, List.set_cons_zero, List.set_cons_succ]
    refine held_take (i := 64) (v := ?_) rfl (by kernel_rfl) (by kernel_rfl) (by kernel_rfl) (fun _ _ _ h => h) (by rfl) hHeld ?y11_64 ?_
    case y11_64 => (intro w hSw; (try dsimp only at hSw); go_simp; try with_reducible rfl)
    try simp only [Act.put, List.setIfInBounds_toArray, List.set_cons_zero, List.set_cons_succ]
    refine held_take (i := 65) (v := ?_) rfl (by kernel_rfl) (by kernel_rfl) (by kernel_rfl) (fun _ _ _ h => h) (by rfl) hHeld ?y11_65 ?_
    case y11_65 => (intro w hSw; (try dsimp only at hSw); go_simp; try with_reducible rfl)
    try simp only [Act.put, List.setIfInBounds_toArray, List.set_cons_zero, List.set_cons_succ]
    refine held_take (i := 66) (v := ?_) rfl (by kernel_rfl) (by kernel_rfl) (by kernel_rfl) (fun _ _ _ h => h) (by rfl) hHeld ?y11_66 ?_
    case y11_66 => (intro w hSw; (try dsimp only at hSw); go_simp; try with_reducible rfl)
    try simp only [Act.put, List.setIfInBounds_toArray, List.set_cons_zero, List.set_cons_succ]
    refine held_take (i := 67) (v := ?_) rfl (by kernel_rfl) (by kernel_rfl) (by kernel_rfl) (fun _ _ _ h => h) (by rfl) hHeld ?y11_67 ?_
    case y11_67 => (intro w hSw; (try dsimp only at hSw); go_simp; try with_reducible rfl)
    try simp only [Act.put, List.setIfInBounds_toArray, List.set_cons_zero, List.set_cons_succ]
    refine held_take (i := 68) (v := ?_) rfl (by kernel_rfl) (by kernel_rfl) (by kernel_rfl) (fun _ _ _ h => h) (by rfl) hHeld ?y11_68 ?_
    case y11_68 => (intro w hSw; (try dsimp only at hSw); go_simp; try with_reducible rfl)
    try simp only [Act.put, List.setIfInBounds_toArray, List.set_cons_zero, List.set_cons_succ]
    refine held_take (i := 69) (v := ?_) rfl (by kernel_rfl) (by kernel_rfl) (by kernel_rfl) (fun _ _ _ h => h) (by rfl) hHeld ?y11_69 ?_
    case y11_69 => (intro w hSw; (try dsimp only at hSw); go_simp; try with_reducible rfl)
    try simp only [Act.put, List.setIfInBounds_toArray, List.set_cons_zero, List.set_cons_succ]
    refine held_take (i := 70) (v := ?_) rfl (by kernel_rfl) (by kernel_rfl) (by kernel_rfl) (fun _ _ _ h => h) (by rfl) hHeld ?y11_70 ?_
    case y11_70 => (intro w hSw; (try dsimp only at hSw); go_simp; try with_reducible rfl)
    try simp only [Act.put, List.setIfInBounds_toArray, List.set_cons_zero, List.set_cons_succ]
    refine held_take (i := 71) (v := ?_) rfl (by kernel_rfl) (by kernel_rfl) (by kernel_rfl) (fun _ _ _ h => h) (by rfl) hHeld ?y11_71 ?_
    case y11_71 => (intro w hSw; (try dsimp only at hSw); go_simp; try with_reducible rfl)
    try simp only [Act.put, List.setIfInBounds_toArray, List.set_cons_zero, List.set_cons_succ]
    refine held_take (i := 72) (v := ?_) rfl (by kernel_rfl) (by kernel_rfl) (by kernel_rfl) (fun _ _ _ h => h) (by rfl) hHeld ?y11_72 ?_
    case y11_72 => (intro w hSw; (try dsimp only at hSw); go_simp; try with_reducible rfl)
    try simp only [Act.put, List.setIfInBounds_toArray, List.set_cons_zero, List.set_cons_succ]
    refine held_take (i := 73) (v := ?_) rfl (by kernel_rfl) (by kernel_rfl) (by kernel_rfl) (fun _ _ _ h => h) (by rfl) hHeld ?y11_73 ?_
    case y11_73 => (intro w hSw; (try dsimp only at hSw); go_simp; try with_reducible rfl)
    try simp only [Act.put, List.setIfInBounds_toArray, List.set_cons_zero, List.set_cons_succ]
    refine held_take (i := 74) (v := ?_) rfl (by kernel_rfl) (by kernel_rfl) (by kernel_rfl) (fun _ _ _ h => h) (by rfl) hHeld ?y11_74 ?_
    case y11_74 => (intro w hSw; (try dsimp only at hSw); go_simp; try with_reducible rfl)
    try simp only [Act.put, List.setIfInBounds_toArray, List.set_cons_zero, List.set_cons_succ]
    refine held_take (i := 75) (v := ?_) rfl (by kernel_rfl) (by kernel_rfl) (by kernel_rfl) (fun _ _ _ h => h) (by rfl) hHeld ?y11_75 ?_
    case y11_75 => (intro w hSw; (try dsimp only at hSw); go_simp; try with_reducible rfl)
    try simp only [Act.put, List.setIfInBounds_toArray, List.set_cons_zero, List.set_cons_succ]
    refine held_take (i := 76) (v := ?_) rfl (by kernel_rfl) (by kernel_rfl) (by kernel_rfl) (fun _ _ _ h => h) (by rfl) hHeld ?y11_76 ?_
    case y11_76 => (intro w hSw; (try dsimp only at hSw); go_simp; try with_reducible rfl)
    try simp only [Act.put, List.setIfInBounds_toArray, List.set_cons_zero, List.set_cons_succ]
    refine held_take (i := 77) (v := ?_) rfl (by kernel_rfl) (by kernel_rfl) (by kernel_rfl) (fun _ _ _ h => h) (by rfl) hHeld ?y11_77 ?_
    case y11_77 => (intro w hSw; (try dsimp only at hSw); go_simp; try with_reducible rfl)
    try simp only [Act.put, List.setIfInBounds_toArray, List.set_cons_zero, List.set_cons_succ]
    refine wpAnyH_done (by kernel_rfl) ?_ _
    refine NoPanic.normal ?_
    go_wp2
    go_ret
    exact ⟨rfl, HB8.out.trans ((HB15.trans (hHeld.1.mono HB15.size)).mono HB8.out.size)⟩
  · refine wp_region_noPanic ?_
    refine wp_region_held_drew (S := fun W => Below w8.heap.size w8 W ∧ (convert 22 9 (.slice A3 X.length c3)).run Try.prog W = .ok (.string (strOfNums X)) W ∧ (convert 22 9 (.slice A4 X.length c4)).run Try.prog W = .ok (.string (strOfNums X)) W ∧ (convert 22 9 (.slice B3 R.length d3)).run Try.prog W = .ok (.string (strOfNums R)) W ∧ (convert 22 9 (.slice B4 R.length d4)).run Try.prog W = .ok (.string (strOfNums R)) W ∧ (convert 22 9 (.slice A7 U.length c7)).run Try.prog W = .ok (.string (strOfNums U)) W ∧ (convert 22 9 (.slice A8 U.length c8)).run Try.prog W = .ok (.string (strOfNums U)) W) (by kernel_rfl) (SS _ (Below.refl _ _).drew) (fun hHeld => ?_)
    refine held_take (i := 0) (v := ?_) rfl (by kernel_rfl) (by kernel_rfl) (by kernel_rfl) (fun _ _ _ h => h) (by rfl) hHeld ?y11_0 ?_
    case y11_0 => (intro w hSw; (try dsimp only at hSw); go_simp; try with_reducible rfl)
    try simp only [Act.put, List.setIfInBounds_toArray, List.set_cons_zero, List.set_cons_succ]
    refine held_take (i := 3) (v := ?_) rfl (by kernel_rfl) (by kernel_rfl) (by kernel_rfl) (fun _ _ _ h => h) (by rfl) hHeld ?y11_3 ?_
    case y11_3 => (intro w hSw; (try dsimp only at hSw); go_simp; try with_reducible rfl)
    try simp only [Act.put, List.setIfInBounds_toArray, List.set_cons_zero, List.set_cons_succ]
    refine held_one (i := 1) (by kernel_rfl) rfl (fun K hK => ?_)
    (refine step_call (by rfl) _ _ (by rfl) Try.func27 (by kernel_rfl) (by kernel_rfl) (by simp only [List.map_toArray, List.map_cons, List.map_nil]; rfl) ((HF1.out _ (Hr0.out.below hHeld.1)).mono ?_); rintro e w11 ⟨v11, rfl, ho11, hb11⟩; obtain ⟨A11, c11, rfl, hc11, hr11⟩ := ho11.rd; have HB11 := hHeld.1.trans (hb11.mono hHeld.1.size); have hS1 := SS _ HB11; refine ⟨_, rfl, ?_⟩)
    refine hK.out _ _ ?_ (fun hHeld => ?_)
    · exact hS1
    clear hK K
    try simp only [Act.put, List.setIfInBounds_toArray, List.set_cons_zero, List.set_cons_succ]
    have SS1 := fun W (h : Below w11.heap.size w11 W) => (⟨h, conv_bytes_string (P := Try.prog) 22 5 9 Try.underlying22 Try.underlying5 Try.underlying9 (hr11.below h) c11, (SS W (HB11.trans (h.mono HB11.size))).2⟩ : Below w11.heap.size w11 W ∧ (convert 22 9 (.slice A11 F.length c11)).run Try.prog W = .ok (.string (strOfNums F)) W ∧ (convert 22 9 (.slice A3 X.length c3)).run Try.prog W = .ok (.string (strOfNums X)) W ∧ (convert 22 9 (.slice A4 X.length c4)).run Try.prog W = .ok (.string (strOfNums X)) W ∧ (convert 22 9 (.slice B3 R.length d3)).run Try.prog W = .ok (.string (strOfNums R)) W ∧ (convert 22 9 (.slice B4 R.length d4)).run Try.prog W = .ok (.string (strOfNums R)) W ∧ (convert 22 9 (.slice A7 U.length c7)).run Try.prog W = .ok (.string (strOfNums U)) W ∧ (convert 22 9 (.slice A8 U.length c8)).run Try.prog W = .ok (.string (strOfNums U)) W)
    refine held_rebase (S' := fun W => Below w11.heap.size w11 W ∧ (convert 22 9 (.slice A11 F.length c11)).run Try.prog W = .ok (.string (strOfNums F)) W ∧ (convert 22 9 (.slice A3 X.length c3)).run Try.prog W = .ok (.string (strOfNums X)) W ∧ (convert 22 9 (.slice A4 X.length c4)).run Try.prog W = .ok (.string (strOfNums X)) W ∧ (convert 22 9 (.slice B3 R.length d3)).run Try.prog W = .ok (.string (strOfNums R)) W ∧ (convert 22 9 (.slice B4 R.length d4)).run Try.prog W = .ok (.string (strOfNums R)) W ∧ (convert 22 9 (.slice A7 U.length c7)).run Try.prog W = .ok (.string (strOfNums U)) W ∧ (convert 22 9 (.slice A8 U.length c8)).run Try.prog W = .ok (.string (strOfNums U)) W) (fun W h => SS W (HB11.trans (h.1.mono HB11.size))) _ _ _ _ ?_
    replace hHeld := SS1 _ (Below.refl _ _)
    clear hS1 ho11 hb11 hr11
    refine held_take (i := 2) (v := ?_) rfl (by kernel_rfl) (by kernel_rfl) (by kernel_rfl) (fun _ _ _ h => h) (by rfl) hHeld ?y11_2 ?_
    case y11_2 => (intro w hSw; (try dsimp only at hSw); go_simp; try with_reducible rfl)
    try simp only [Act.put, List.setIfInBounds_toArray, List.set_cons_zero, List.set_cons_succ]
    refine held_one (i := 4) (by kernel_rfl) rfl (fun K hK => ?_)
    (refine step_call (by rfl) _ _ (by rfl) Try.func36 (by kernel_rfl) (by kernel_rfl) (by simp only [List.map_toArray, List.map_cons, List.map_nil]; rfl) ((HF2.out _ (Hr0.out.below (HB11.trans (hHeld.1.mono HB11.size)))).mono ?_); rintro e w12 ⟨v12, rfl, ho12, hb12⟩; obtain ⟨A12, c12, rfl, hc12, hr12⟩ := ho12.rd; have HC12 := hHeld.1.trans (hb12.mono hHeld.1.size); have hS4 := SS1 _ HC12; refine ⟨_, rfl, ?_⟩)
    refine hK.out _ _ ?_ (fun hHeld => ?_)
    · exact hS4
    clear hK K
    try simp only [Act.put, List.setIfInBounds_toArray, List.set_cons_zero, List.set_cons_succ]
    have SS2 := fun W (h : Below w12.heap.size w12 W) => (⟨h, conv_bytes_string (P := Try.prog) 22 5 9 Try.underlying22 Try.underlying5 Try.underlying9 (hr12.below h) c12, (SS1 W (HC12.trans (h.mono HC12.size))).2⟩ : Below w12.heap.size w12 W ∧ (convert 22 9 (.slice A12 F.length c12)).run Try.prog W = .ok (.string (strOfNums F)) W ∧ (convert 22 9 (.slice A11 F.length c11)).run Try.prog W = .ok (.string (strOfNums F)) W ∧ (convert 22 9 (.slice A3 X.length c3)).run Try.prog W = .ok (.string (strOfNums X)) W ∧ (convert 22 9 (.slice A4 X.length c4)).run Try.prog W = .ok (.string (strOfNums X)) W ∧ (convert 22 9 (.slice B3 R.length d3)).run Try.prog W = .ok (.string (strOfNums R)) W ∧ (convert 22 9 (.slice B4 R.length d4)).run Try.prog W = .ok (.string (strOfNums R)) W ∧ (convert 22 9 (.slice A7 U.length c7)).run Try.prog W = .ok (.string (strOfNums U)) W ∧ (convert 22 9 (.slice A8 U.length c8)).run Try.prog W = .ok (.string (strOfNums U)) W)
    refine held_rebase (S' := fun W => Below w12.heap.size w12 W ∧ (convert 22 9 (.slice A12 F.length c12)).run Try.prog W = .ok (.string (strOfNums F)) W ∧ (convert 22 9 (.slice A11 F.length c11)).run Try.prog W = .ok (.string (strOfNums F)) W ∧ (convert 22 9 (.slice A3 X.length c3)).run Try.prog W = .ok (.string (strOfNums X)) W ∧ (convert 22 9 (.slice A4 X.length c4)).run Try.prog W = .ok (.string (strOfNums X)) W ∧ (convert 22 9 (.slice B3 R.length d3)).run Try.prog W = .ok (.string (strOfNums R)) W ∧ (convert 22 9 (.slice B4 R.length d4)).run Try.prog W = .ok (.string (strOfNums R)) W ∧ (convert 22 9 (.slice A7 U.length c7)).run Try.prog W = .ok (.string (strOfNums U)) W ∧ (convert 22 9 (.slice A8 U.length c8)).run Try.prog W = .ok (.string (strOfNums U)) W) (fun W h => SS1 W (HC12.trans (h.1.mono HC12.size))) _ _ _ _ ?_
    replace hHeld := SS2 _ (Below.refl _ _)
    have HB12 := HB11.trans (HC12.mono HB11.size)
    clear hS4 ho12 hb12 hr12
    refine held_take (i := 5) (v := ?_) rfl (by kernel_rfl) (by kernel_rfl) (by kernel_rfl) (fun _ _ _ h => h) (by rfl) hHeld ?y11_5 ?_
    case y11_5 => (intro w hSw; (try dsimp only at hSw); go_simp; try with_reducible rfl)
    try simp only [Act.put, List.setIfInBounds_toArray, List.set_cons_zero, List.set_cons_succ]
    refine held_take (i := 6) (v := ?_) rfl (by kernel_rfl) (by kernel_rfl) (by kernel_rfl) (fun _ _ _ h => h) (by rfl) hHeld ?y11_6 ?_
    case y11_6 => (intro w hSw; (try dsimp only at hSw); go_simp; try with_reducible rfl)
    try simp only [Act.put, List.setIfInBounds_toArray, List.set_cons_zero, List.set_cons_succ]
    refine held_take (i := 7) (v := ?_) rfl (by kernel_rfl) (by kernel_rfl) (by kernel_rfl) (fun _ _ _ h => h) (by rfl) hHeld ?y11_7 ?_
    case y11_7 => (intro w hSw; (try dsimp only at hSw); go_simp; try with_reducible rfl)
    try simp only [Act.put, List.setIfInBounds_toArray, List.set_cons_zero, List.set_cons_succ]
    refine held_take (i := 8) (v := ?_) rfl (by kernel_rfl) (by kernel_rfl) (by kernel_rfl) (fun _ _ _ h => h) (by rfl) hHeld ?y11_8 ?_
    case y11_8 => (intro w hSw; (try dsimp only at hSw); go_simp; try with_reducible rfl)
    try simp only [Act.put, List.setIfInBounds_toArray, List.set_cons_zero, List.set_cons_succ]
    refine held_take (i := 9) (v := ?_) rfl (by kernel_rfl) (by kernel_rfl) (by kernel_rfl) (fun _ _ _ h => h) (by rfl) hHeld ?y11_9 ?_
    case y11_9 => (intro w hSw; (try dsimp only at hSw); go_simp; try with_reducible rfl)
    try simp only [Act.put, List.setIfInBounds_toArray, List.set_cons_zero, List.set_cons_succ]
    refine held_take (i := 10) (v := ?_) rfl (by kernel_rfl) (by kernel_rfl) (by kernel_rfl) (fun _ _ _ h => h) (by rfl) hHeld ?y11_10 ?_
    case y11_10 => (intro w hSw; (try dsimp only at hSw); go_simp; try with_reducible rfl)
    try simp only [Act.put, List.setIfInBounds_toArray, List.set_cons_zero, List.set_cons_succ]
    refine held_take (i := 11) (v := ?_) rfl (by kernel_rfl) (by kernel_rfl) (by kernel_rfl) (fun _ _ _ h => h) (by rfl) hHeld ?y11_11 ?_
    case y11_11 => (intro w hSw; (try dsimp only at hSw); go_simp; try with_reducible rfl)
    try simp only [Act.put, List.setIfInBounds_toArray, List.set_cons_zero, List.set_cons_succ]
    refine held_take (i := 12) (v := ?_) rfl (by kernel_rfl) (by kernel_rfl) (by kernel_rfl) (fun _ _ _ h => h) (by rfl) hHeld ?y11_12 ?_
    case y11_12 => (intro w hSw; (try dsimp only at hSw); go_simp; try with_reducible rfl)
    try simp only [Act.put, List.setIfInBounds_toArray, List.set_cons_zero, List.set_cons_succ]
    refine held_take (i := 13) (v := ?_) rfl (by kernel_rfl) (by kernel_rfl) (by kernel_rfl) (fun _ _ _ h => h) (by rfl) hHeld ?y11_13 ?_
    case y11_13 => (intro w hSw; (try dsimp only at hSw); go_simp; try with_reducible rfl)
    try simp only [Act.put, List.setIfInBounds_toArray, List.set_cons_zero, List.set_cons_succ]
    refine held_take (i := 14) (v := ?_) rfl (by kernel_rfl) (by kernel_rfl) (by kernel_rfl) (fun _ _ _ h => h) (by rfl) hHeld ?y11_14 ?_
    case y11_14 => (intro w hSw; (try dsimp only at hSw); go_simp; try with_reducible rfl)
    try simp only [Act.put, List.setIfInBounds_toArray, List.set_cons_zero, List.set_cons_succ]
    refine held_take (i := 15) (v := ?_) rfl (by kernel_rfl) (by kernel_rfl) (by kernel_rfl) (fun _ _ _ h => h) (by rfl) hHeld ?y11_15 ?_
    case y11_15 => (intro w hSw; (try dsimp only at hSw); go_simp; try with_reducible rfl)
    try simp only [Act.put, List.setIfInBounds_toArray, List.set_cons_zero, List.set_cons_succ]
    refine held_take (i := 16) (v := ?_) rfl (by kernel_rfl) (by kernel_rfl) (by kernel_rfl) (fun _ _ _ h => h) (by rfl) hHeld ?y11_16 ?_
    case y11_16 => (intro w hSw; (try dsimp only at hSw); go_simp; try with_reducible rfl)
    try simp only [Act.put, List.setIfInBounds_toArray, List.set_cons_zero, List.set_cons_succ]
    refine held_take (i := 17) (v := ?_) rfl (by kernel_rfl) (by kernel_rfl) (by kernel_rfl) (fun _ _ _ h => h) (by rfl) hHeld ?y11_17 ?_
    case y11_17 => (intro w hSw; (try dsimp only at hSw); go_simp; try with_reducible rfl)
    try simp only [Act.put, List.setIfInBounds_toArray, List.set_cons_zero, List.set_cons_succ]
    refine held_take (i := 18) (v := ?_) rfl (by kernel_rfl) (by kernel_rfl) (by kernel_rfl) (fun _ _ _ h => h) (by rfl) hHeld ?y11_18 ?_
    case y11_18 => (intro w hSw; (try dsimp only at hSw); go_simp; try with_reducible rfl)
    try simp only [Act.put, List.setIfInBounds_toArray, List.set_cons_zero, List.set_cons_succ]
    refine held_take (i := 19) (v := ?_) rfl (by kernel_rfl) (by kernel_rfl) (by kernel_rfl) (fun _ _ _ h => h) (by rfl) hHeld ?y11_19 ?_
    case y11_19 => (intro w hSw; (try dsimp only at hSw); go_simp; try with_reducible rfl)
    try simp only [Act.put, List.setIfInBounds_toArray, List.set_cons_zero, List.set_cons_succ]
    refine held_take (i := 20) (v := ?_) rfl (by kernel_rfl) (by kernel_rfl) (by kernel_rfl) (fun _ _ _ h => h) (by rfl) hHeld ?y11_20 ?_
    case y11_20 => (intro w hSw; (try dsimp only at hSw); go_simp; try with_reducible rfl)
    try simp only [Act.put, List.setIfInBounds_toArray, List.set_cons_zero, List.set_cons_succ]
    refine held_take (i := 21) (v := ?_) rfl (by kernel_rfl) (by kernel_rfl) (by kernel_rfl) (fun _ _ _ h => h) (by rfl) hHeld ?y11_21 ?_
    case y11_21 => (intro w hSw; (try dsimp only at hSw); go_simp; try with_reducible rfl)
    try simp only [Act.put, List.setIfInBounds_toArray, List.set_cons_zero, List.set_cons_succ]
    refine held_take (i := 22) (v := ?_) rfl (by kernel_rfl) (by kernel_rfl) (by kernel_rfl) (fun _ _ _ h => h) (by rfl) hHeld ?y11_22 ?_
    case y11_22 => (intro w hSw; (try dsimp only at hSw); go_simp; try with_reducible rfl)
    try simp only [Act.put, List.setIfInBounds_toArray, List.set_cons_zero, List.set_cons_succ]
    refine held_take (i := 23) (v := ?_) rfl (by kernel_rfl) (by kernel_rfl) (by kernel_rfl) (fun _ _ _ h => h) (by rfl) hHeld ?y11_23 ?_
    case y11_23 => (intro w hSw; (try dsimp only at hSw); go_simp; try with_reducible rfl)
    try simp only [Act.put, List.setIfInBounds_toArray, List.set_cons_zero, List.set_cons_succ]
    refine held_take (i := 24) (v := ?_) rfl (by kernel_rfl) (by kernel_rfl) (by kernel_rfl) (fun _ _ _ h => h) (by rfl) hHeld ?y11_24 ?_
    case y11_24 => (intro w hSw; (try dsimp only at hSw); go_simp; try with_reducible rfl)
    try simp only [Act.put, List.setIfInBounds_toArray, List.set_cons_zero, List.set_cons_succ]
    refine held_take (i := 25) (v := ?_) rfl (by kernel_rfl) (by kernel_rfl) (by kernel_rfl) (fun _ _ _ h => h) (by rfl) hHeld ?y11_25 ?_
    case y11_25 => (intro w hSw; (try dsimp only at hSw); go_simp; try with_reducible rfl)
    try simp only [Act.put, List.setIfInBounds_toArray, List.set_cons_zero, List.set_cons_succ]
    refine held_take (i := 26) (v := ?_) rfl (by kernel_rfl) (by kernel_rfl) (by kernel_rfl) (fun _ _ _ h => h) (by rfl) hHeld ?y11_26 ?_
    case y11_26 => (intro w hSw; (try dsimp only at hSw); go_simp; try with_reducible rfl)
    try simp only [Act.put, List.setIfInBounds_toArray, List.set_cons_zero, List.set_cons_succ]
    refine held_take (i := 27) (v := ?_) rfl (by kernel_rfl) (by kernel_rfl) (by kernel_rfl) (fun _ _ _ h => h) (by rfl) hHeld ?y11_27 ?_
    case y11_27 => (intro w hSw; (try dsimp only at hSw); go_simp; try with_reducible rfl)
    try simp only [Act.put, List.setIfInBounds_toArray, List.set_cons_zero, List.set_cons_succ]
    refine held_take (i := 28) (v := ?_) rfl (by kernel_rfl) (by kernel_rfl) (by kernel_rfl) (fun _ _ _ h => h) (by rfl) hHeld ?y11_28 ?_
    case y11_28 => (intro w hSw; (try dsimp only at hSw); go_simp; try with_reducible rfl)
    try simp only [Act.put, List.setIfInBounds_toArray, List.set_cons_zero, List.set_cons_succ]
    refine held_take (i := 29) (v := ?_) rfl (by kernel_rfl) (by kernel_rfl) (by kernel_rfl) (fun _ _ _ h => h) (by rfl) hHeld ?y11_29 ?_
    case y11_29 => (intro w hSw; (try dsimp only at hSw); go_simp; try with_reducible rfl)
    try simp only [Act.put, List.setIfInBounds_toArray, List.set_cons_zero, List.set_cons_succ]
    refine held_take (i := 30) (v := ?_) rfl (by kernel_rfl) (by kernel_rfl) (by kernel_rfl) (fun _ _ _ h => h) (by rfl) hHeld ?y11_30 ?_
    case y11_30 => (intro w hSw; (try dsimp only at hSw); go_simp; try with_reducible rfl)
    try simp only [Act.put, List.setIfInBounds_toArray, List.set_cons_zero, List.set_cons_succ]
    refine held_take (i := 31) (v := ?_) rfl (by kernel_rfl) (by kernel_rfl) (by kernel_rfl) (fun _ _ _ h => h) (by rfl) hHeld ?y11_31 ?_
    case y11_31 => (intro w hSw; (try dsimp only at hSw); go_simp; try with_reducible rfl)
    try simp only [Act.put, List.setIfInBounds_toArray, List.set_cons_zero, List.set_cons_succ]
    refine held_take (i := 32) (v := ?_) rfl (by kernel_rfl) (by kernel_rfl) (by kernel_rfl) (fun _ _ _ h => h) (by rfl) hHeld ?y11_32 ?_
    case y11_32 => (intro w hSw; (try dsimp only at hSw); go_simp; try with_reducible rfl)
    try simp only [Act.put, List.setIfInBounds_toArray, List.set_cons_zero, List.set_cons_succ]
    refine held_take (i := 33) (v := ?_) rfl (by kernel_rfl) (by kernel_rfl) (by kernel_rfl) (fun _ _ _ h => h) (by rfl) hHeld ?y11_33 ?_
    case y11_33 => (intro w hSw; (try dsimp only at hSw); go_simp; try with_reducible rfl)
    try simp only [Act.put, List.setIfInBounds_toArray, List.set_cons_zero, List.set_cons_succ]
    refine held_take (i := 34) (v := ?_) rfl (by kernel_rfl) (by kernel_rfl) (by kernel_rfl) (fun _ _ _ h => h) (by rfl) hHeld ?y11_34 ?_
    case y11_34 => (intro w hSw; (try dsimp only at hSw); go_simp; try with_reducible rfl)
    try simp only [Act.put, List.setIfInBounds_toArray, List.set_cons_zero, List.set_cons_succ]
    refine held_take (i := 35) (v := ?_) rfl (by kernel_rfl) (by kernel_rfl) (by kernel_rfl) (fun _ _ _ h => h) (by rfl) hHeld ?y11_35 ?_
    case y11_35 => (intro w hSw; (try dsimp only at hSw); go_simp; try with_reducible rfl)
    try simp only [Act.put, List.setIfInBounds_toArray, List.set_cons_zero, List.set_cons_succ]
    refine held_take (i := 36) (v := ?_) rfl (by kernel_rfl) (by kernel_rfl) (by kernel_rfl) (fun _ _ _ h => h) (by rfl) hHeld ?y11_36 ?_
    case y11_36 => (intro w hSw; (try dsimp only at hSw); go_simp; try with_reducible rfl)
    try simp only [Act.put, List.setIfInBounds_toArray, List.set_cons_zero, List.set_cons_succ]
    refine held_take (i := 37) (v := ?_) rfl (by kernel_rfl) (by kernel_rfl) (by kernel_rfl) (fun _ _ _ h => h) (by rfl) hHeld ?y11_37 ?_
    case y11_37 => (intro w hSw; (try dsimp only at hSw); go_simp; try with_reducible rfl)
    try simp only [Act.put, List.setIfInBounds_toArray, List.set_cons_zero, List.set_cons_succ]
    refine held_one (i := 38) (by kernel_rfl) rfl (fun K hK => ?_)
    (refine step_call (by rfl) _ _ (by rfl) Try.func32 (by kernel_rfl) (by kernel_rfl) (by simp only [List.map_toArray, List.map_cons, List.map_nil]; rfl) ((HTX.out _ (HB12.trans (hHeld.1.mono HB12.size))).mono ?_); rintro e w13 ⟨rfl, hb13⟩; have hS38 := SS2 _ (hHeld.1.trans (hb13.mono hHeld.1.size)); refine ⟨_, rfl, ?_⟩)
    refine hK.out _ _ ?_ (fun hHeld => ?_)
    · exact hS38
    clear hK K
    try simp only [Act.put, List.setIfInBounds_toArray, List.set_cons_zero, List.set_cons_succ]
    clear hS38 hb13
    refine held_take (i := 39) (v := ?_) rfl (by kernel_rfl) (by kernel_rfl) (by kernel_rfl) (fun _ _ _ h => h) (by rfl) hHeld ?y11_39 ?_
    case y11_39 => (intro w hSw; (try dsimp only at hSw); go_simp; try with_reducible rfl)
    try simp only [Act.put, List.setIfInBounds_toArray, List.set_cons_zero, List.set_cons_succ]
    refine held_take (i := 40) (v := ?_) rfl (by kernel_rfl) (by kernel_rfl) (by kernel_rfl) (fun _ _ _ h => h) (by rfl) hHeld ?y11_40 ?_
    case y11_40 => (intro w hSw; (try dsimp only at hSw); go_simp; try with_reducible rfl)
    try simp only [Act.put, List.setIfInBounds_toArray, List.set_cons_zero, List.set_cons_succ]
    refine held_take (i := 41) (v := ?_) rfl (by kernel_rfl) (by kernel_rfl) (by kernel_rfl) (fun _ _ _ h => h) (by rfl) hHeld ?y11_41 ?_
    case y11_41 => (intro w hSw; (try dsimp only at hSw); go_simp; try with_reducible rfl)
    try simp only [Act.put, List.setIfInBounds_toArray, List.set_cons_zero, List.set_cons_succ]
    refine held_take (i := 42) (v := ?_) rfl (by kernel_rfl) (by kernel_rfl) (by kernel_rfl) (fun _ _ _ h => h) (by rfl) hHeld ?y11_42 ?_
    case y11_42 => (intro w hSw; (try dsimp only at hSw); go_simp; try with_reducible rfl)
    try simp only [Act.put, List.setIfInBounds_toArray, List.set_cons_zero, List.set_cons_succ]
    refine held_take (i := 43) (v := ?_) rfl (by kernel_rfl) (by kernel_rfl) (by kernel_rfl) (fun _ _ _ h => h) (by rfl) hHeld ?y11_43 ?_
    case y11_43 => (intro w hSw; (try dsimp only at hSw); go_simp; try with_reducible rfl)
    try simp only [Act.put, List.setIfInBounds_toArray, List.set_cons_zero, List.set_cons_succ]
    refine held_take (i := 44) (v := ?_) rfl (by kernel_rfl) (by kernel_rfl) (by kernel_rfl) (fun _ _ _ h => h) (by rfl) hHeld ?y11_44 ?_
    case y11_44 => (intro w hSw; (try dsimp only at hSw); go_simp; try with_reducible rfl)
    try simp only [Act.put, List.setIfInBounds_toArray, List.set_cons_zero, List.set_cons_succ]
    refine held_take (i := 45) (v := ?_) rfl (by kernel_rfl) (by kernel_rfl) (by kernel_rfl) (fun _ _ _ h => h) (by rfl) hHeld ?y11_45 ?_
    case y11_45 => (intro w hSw; (try dsimp only at hSw); go_simp; try with_reducible rfl)
    try simp only [Act.put, List.setIfInBounds_toArray, List.set_cons_zero, List.set_cons_succ]
    refine held_take (i := 46) (v := ?_) rfl (by kernel_rfl) (by kernel_rfl) (by kernel_rfl) (fun _ _ _ h => h) (by rfl) hHeld ?y11_46 ?_
    case y11_46 => (intro w hSw; (try dsimp only at hSw); go_simp; try with_reducible rfl)
    try simp only [Act.put, List.setIfInBounds_toArray, List.set_cons_zero, List.set_cons_succ]
    refine held_take (i := 47) (v := ?_) rfl (by kernel_rfl) (by kernel_rfl) (by kernel_rfl) (fun _ _ _ h => h) (by rfl) hHeld ?y11_47 ?_
    case y11_47 => (intro w hSw; (try dsimp only at hSw); go_simp; try with_reducible rfl)
    try simp only [Act.put, List.setIfInBounds_toArray, List.set_cons_zero, List.set_cons_succ]
    refine held_take (i := 50) (v := ?_) rfl (by kernel_rfl) (by kernel_rfl) (by kernel_rfl) (fun _ _ _ h => h) (by rfl) hHeld ?y11_50 ?_
    case y11_50 => (intro w hSw; (try dsimp only at hSw); go_simp; try with_reducible rfl)
    try simp only [Act.put, List.setIfInBounds_toArray, List.set_cons_zero, List.set_cons_succ]
    refine held_take (i := 51) (v := ?_) rfl (by kernel_rfl) (by kernel_rfl) (by kernel_rfl) (fun _ _ _ h => h) (by rfl) hHeld ?y11_51 ?_
    case y11_51 => (intro w hSw; (try dsimp only at hSw); go_simp; try with_reducible rfl)
    try simp only [Act.put, List.setIfInBounds_toArray, List.set_cons_zero, List.set_cons_succ]
    refine held_one (i := 48) (by kernel_rfl) rfl (fun K hK => ?_)
    (refine step_call (by rfl) _ _ (by rfl) Try.func29 (by kernel_rfl) (by kernel_rfl) (by simp only [List.map_toArray, List.map_cons, List.map_nil]; rfl) ((HG1.out _ (Hr0.out.below (HB12.trans (hHeld.1.mono HB12.size)))).mono ?_); rintro e w14 ⟨v14, rfl, ho14, hb14⟩; obtain ⟨A14, c14, rfl, hc14, hr14⟩ := ho14.rd; have HC14 := hHeld.1.trans (hb14.mono hHeld.1.size); have hS48 := SS2 _ HC14; refine ⟨_, rfl, ?_⟩)
    refine hK.out _ _ ?_ (fun hHeld => ?_)
    · exact hS48
    clear hK K
    try simp only [Act.put, List.setIfInBounds_toArray, List.set_cons_zero, List.set_cons_succ]
    have SS3 := fun W (h : Below w14.heap.size w14 W) => (⟨h, conv_bytes_string (P := Try.prog) 22 5 9 Try.underlying22 Try.underlying5 Try.underlying9 (hr14.below h) c14, (SS2 W (HC14.trans (h.mono HC14.size))).2⟩ : Below w14.heap.size w14 W ∧ (convert 22 9 (.slice A14 G.length c14)).run Try.prog W = .ok (.string (strOfNums G)) W ∧ (convert 22 9 (.slice A12 F.length c12)).run Try.prog W = .ok (.string (strOfNums F)) W ∧ (convert 22 9 (.slice A11 F.length c11)).run Try.prog W = .ok (.string (strOfNums F)) W ∧ (convert 22 9 (.slice A3 X.length c3)).run Try.prog W = .ok (.string (strOfNums X)) W ∧ (convert 22 9 (.slice A4 X.length c4)).run Try.prog W = .ok (.string (strOfNums X)) W ∧ (convert 22 9 (.slice B3 R.length d3)).run Try.prog W = .ok (.string (strOfNums R)) W ∧ (convert 22 9 (.slice B4 R.length d4)).run Try.prog W = .ok (.string (strOfNums R)) W ∧ (convert 22 9 (.slice A7 U.length c7)).run Try.prog W = .ok (.string (strOfNums U)) W ∧ (convert 22 9 (.slice A8 U.length c8)).run Try.prog W = .ok (.string (strOfNums U)) W)
    refine held_rebase (S' := fun W => Below w14.heap.size w14 W ∧ (convert 22 9 (.slice A14 G.length c14)).run Try.prog W = .ok (.string (strOfNums G)) W ∧ (convert 22 9 (.slice A12 F.length c12)).run Try.prog W = .ok (.string (strOfNums F)) W ∧ (convert 22 9 (.slice A11 F.length c11)).run Try.prog W = .ok (.string (strOfNums F)) W ∧ (convert 22 9 (.slice A3 X.length c3)).run Try.prog W = .ok (.string (strOfNums X)) W ∧ (convert 22 9 (.slice A4 X.length c4)).run Try.prog W = .ok (.string (strOfNums X)) W ∧ (convert 22 9 (.slice B3 R.length d3)).run Try.prog W = .ok (.string (strOfNums R)) W ∧ (convert 22 9 (.slice B4 R.length d4)).run Try.prog W = .ok (.string (strOfNums R)) W ∧ (convert 22 9 (.slice A7 U.length c7)).run Try.prog W = .ok (.string (strOfNums U)) W ∧ (convert 22 9 (.slice A8 U.length c8)).run Try.prog W = .ok (.string (strOfNums U)) W) (fun W h => SS2 W (HC14.trans (h.1.mono HC14.size))) _ _ _ _ ?_
    replace hHeld := SS3 _ (Below.refl _ _)
    have HB14 := HB12.trans (HC14.mono HB12.size)
    clear hS48 ho14 hb14 hr14
    refine held_take (i := 49) (v := ?_) rfl (by kernel_rfl) (by kernel_rfl) (by kernel_rfl) (fun _ _ _ h => h) (by rfl) hHeld ?y11_49 ?_
    case y11_49 => (intro w hSw; (try dsimp only at hSw); go_simp; try with_reducible rfl)
    try simp only [Act.put, List.setIfInBounds_toArray, List.set_cons_zero, List.set_cons_succ]
    refine held_one (i := 52) (by kernel_rfl) rfl (fun K hK => ?_)
    (refine step_call (by rfl) _ _ (by rfl) Try.func37 (by kernel_rfl) (by kernel_rfl) (by simp only [List.map_toArray, List.map_cons, List.map_nil]; rfl) ((HG2.out _ (Hr0.out.below (HB14.trans (hHeld.1.mono HB14.size)))).mono ?_); rintro e w15 ⟨v15, rfl, ho15, hb15⟩; obtain ⟨A15, c15, rfl, hc15, hr15⟩ := ho15.rd; have HC15 := hHeld.1.trans (hb15.mono hHeld.1.size); have hS52 := SS3 _ HC15; refine ⟨_, rfl, ?_⟩)
    refine hK.out _ _ ?_ (fun hHeld => ?_)
    · exact hS52
    clear hK K
    try simp only [Act.put, List.setIfInBounds_toArray, List.set_cons_zero, List.set_cons_succ]
    have SS4 := fun W (h : Below w15.heap.size w15 W) => (⟨h, conv_bytes_string (P := Try.prog) 22 5 9 Try.underlying22 Try.underlying5 Try.underlying9 (hr15.below h) c15, (SS3 W (HC15.trans (h.mono HC15.size))).2⟩ : Below w15.heap.size w15 W ∧ (convert 22 9 (.slice A15 G.length c15)).run Try.prog W = .ok (.string (strOfNums G)) W ∧ (convert 22 9 (.slice A14 G.length c14)).run Try.prog W = .ok (.string (strOfNums G)) W ∧ (convert 22 9 (.slice A12 F.length c12)).run Try.prog W = .ok (.string (strOfNums F)) W ∧ (convert 22 9 (.slice A11 F.length c11)).run Try.prog W = .ok (.string (strOfNums F)) W ∧ (convert 22 9 (.slice A3 X.length c3)).run Try.prog W = .ok (.string (strOfNums X)) W ∧ (convert 22 9 (.slice A4 X.length c4)).run Try.prog W = .ok (.string (strOfNums X)) W ∧ (convert 22 9 (.slice B3 R.length d3)).run Try.prog W = .ok (.string (strOfNums R)) W ∧ (convert 22 9 (.slice B4 R.length d4)).run Try.prog W = .ok (.string (strOfNums R)) W ∧ (convert 22 9 (.slice A7 U.length c7)).run Try.prog W = .ok (.string (strOfNums U)) W ∧ (convert 22 9 (.slice A8 U.length c8)).run Try.prog W = .ok (.string (strOfNums U)) W)
    refine held_rebase (S' := fun W => Below w15.heap.size w15 W ∧ (convert 22 9 (.slice A15 G.length c15)).run Try.prog W = .ok (.string (strOfNums G)) W ∧ (convert 22 9 (.slice A14 G.length c14)).run Try.prog W = .ok (.string (strOfNums G)) W ∧ (convert 22 9 (.slice A12 F.length c12)).run Try.prog W = .ok (.string (strOfNums F)) W ∧ (convert 22 9 (.slice A11 F.length c11)).run Try.prog W = .ok (.string (strOfNums F)) W ∧ (convert 22 9 (.slice A3 X.length c3)).run Try.prog W = .ok (.string (strOfNums X)) W ∧ (convert 22 9 (.slice A4 X.length c4)).run Try.prog W = .ok (.string (strOfNums X)) W ∧ (convert 22 9 (.slice B3 R.length d3)).run Try.prog W = .ok (.string (strOfNums R)) W ∧ (convert 22 9 (.slice B4 R.length d4)).run Try.prog W = .ok (.string (strOfNums R)) W ∧ (convert 22 9 (.slice A7 U.length c7)).run Try.prog W = .ok (.string (strOfNums U)) W ∧ (convert 22 9 (.slice A8 U.length c8)).run Try.prog W = .ok (.string (strOfNums U)) W) (fun W h => SS3 W (HC15.trans (h.1.mono HC15.size))) _ _ _ _ ?_
    replace hHeld := SS4 _ (Below.refl _ _)
    have HB15 := HB14.trans (HC15.mono HB14.size)
    clear hS52 ho15 hb15 hr15
    refine held_take (i := 53) (v := ?_) rfl (by kernel_rfl) (by kernel_rfl) (by kernel_rfl) (fun _ _ _ h => h) (by rfl) hHeld ?y11_53 ?_
    case y11_53 => (intro w hSw; (try dsimp only at hSw); go_simp; try with_reducible rfl)
    try simp only [Act.put, List.setIfInBounds_toArray, List.set_cons_zero, List.set_cons_succ]
    refine held_take (i := 54) (v := ?_) rfl (by kernel_rfl) (by kernel_rfl) (by kernel_rfl) (fun _ _ _ h => h) (by rfl) hHeld ?y11_54 ?_
    case y11_54 => (intro w hSw; (try dsimp only at hSw); go_simp; try with_reducible rfl)
    try simp only [Act.put, List.setIfInBounds_toArray, List.set_cons_zero, List.set_cons_succ]
    refine held_take (i := 55) (v := ?_) rfl (by kernel_rfl) (by kernel_rfl) (by kernel_rfl) (fun _ _ _ h => h) (by rfl) hHeld ?y11_55 ?_
    case y11_55 => (intro w hSw; (try dsimp only at hSw); go_simp; try with_reducible rfl)
    try simp only [Act.put, List.setIfInBounds_toArray, List.set_cons_zero, List.set_cons_succ]
    refine held_take (i := 56) (v := ?_) rfl (by kernel_rfl) (by kernel_rfl) (by kernel_rfl) (fun _ _ _ h => h) (by rfl) hHeld ?y11_56 ?_
    case y11_56 => (intro w hSw; (try dsimp only at hSw); go_simp; try with_reducible rfl)
    try simp only [Act.put, List.setIfInBounds_toArray, List.set_cons_zero, List.set_cons_succ]
    refine held_take (i := 57) (v := ?_) rfl (by kernel_rfl) (by kernel_rfl) (by kernel_rfl) (fun _ _ _ h => h) (by rfl) hHeld ?y11_57 ?_
    case y11_57 => (intro w hSw; (try dsimp only at hSw); go_simp; try with_reducible rfl)
    try simp only [Act.put, List.setIfInBounds_toArray, List.set_cons_zero, List.set_cons_succ]
    refine held_take (i := 58) (v := ?_) rfl (by kernel_rfl) (by kernel_rfl) (by kernel_rfl) (fun _ _ _ h => h) (by rfl) hHeld ?y11_58 ?_
    case y11_58 => (intro w hSw; (try dsimp only at hSw); go_simp; try with_reducible rfl)
    try simp only [Act.put, List.setIfInBounds_toArray, List.set_cons_zero, List.set_cons_succ]
    refine held_take (i := 59) (v := ?_) rfl (by kernel_rfl) (by kernel_rfl) (by kernel_rfl) (fun _ _ _ h => h) (by rfl) hHeld ?y11_59 ?_
    case y11_59 => (intro w hSw; (try dsimp only at hSw); go_simp; try with_reducible rfl)
    try simp only [Act.put, List.setIfInBounds_toArray, List.set_cons_zero, List.set_cons_succ]
    refine held_take (i := 60) (v := ?_) rfl (by kernel_rfl) (by kernel_rfl) (by kernel_rfl) (fun _ _ _ h => h) (by rfl) hHeld ?y11_60 ?_
    case y11_60 => (intro w hSw; (try dsimp only at hSw); go_simp; try with_reducible rfl)
    try simp only [Act.put, List.setIfInBounds_toArray, List.set_cons_zero, List.set_cons_succ]
    refine held_take (i := 61) (v := ?_) rfl (by kernel_rfl) (by kernel_rfl) (by kernel_rfl) (fun _ _ _ h => h) (by rfl) hHeld ?y11_61 ?_
    case y11_61 => (intro w hSw; (try dsimp only at hSw); go_simp; try with_reducible rfl)
    try simp only [Act.put, List.setIfInBounds_toArray, List.set_cons_zero, List.set_cons_succ]
    refine held_take (i := 62) (v := ?_) rfl (by kernel_rfl) (by kernel_rfl) (by kernel_rfl) (fun _ _ _ h => h) (by rfl) hHeld ?y11_62 ?_
    case y11_62 => (intro w hSw; (try dsimp only at hSw); go_simp; try with_reducible rfl)
    try simp only [Act.put, List.setIfInBounds_toArray, List.set_cons_zero, List.set_cons_succ]
    refine held_take (i := 63) (v := ?_) rfl (by kernel_rfl) (by kernel_rfl) (by kernel_rfl) (fun _ _ _ h => h) (by rfl) hHeld ?y11_63 ?_
    case y11_63 => (intro w hSw; (try dsimp only at hSw); go_simp; try with_reducible rfl)
    try simp only [Act.put, List.setIfInBounds_toArray, List.set_cons_zero, List.set_cons_succ]
    refine held_take (i := 64) (v := ?_) rfl (by kernel_rfl) (by kernel_rfl) (by kernel_rfl) (fun _ _ _ h => h) (by rfl) hHeld ?y11_64 ?_
    case y11_64 => (intro w hSw; (try dsimp only at hSw); go_simp; try with_reducible rfl)
    try simp only [Act.put, List.setIfInBounds_toArray, List.set_cons_zero, List.set_cons_succ]
    refine held_take (i := 65) (v := ?_) rfl (by kernel_rfl) (by kernel_rfl) (by kernel_rfl) (fun _ _ _ h => h) (by rfl) hHeld ?y11_65 ?_
    case y11_65 => (intro w hSw; (try dsimp only at hSw); go_simp; try with_reducible rfl)
    try simp only [Act.put, List.setIfInBounds_toArray, List.set_cons_zero, List.set_cons_succ]
    refine held_off (i := 66) rfl (by kernel_rfl) (by kernel_rfl) (by kernel_rfl) (fun _ _ _ h => h) (by rfl) hHeld ?_
    try simp only [Act.put, List.setIfInBounds_toArray, List.set_cons_zero, List.set_cons_succ]
    refine held_off (i := 67) rfl (by kernel_rfl) (by kernel_rfl) (by kernel_rfl) (fun _ _ _ h => h) (by rfl) hHeld ?_
    try simp only [Act.put, List.setIfInBounds_toArray, List.set_cons_zero, List.set_cons_succ]
    refine held_take (i := 68) (v := ?_) rfl (by kernel_rfl) (by kernel_rfl) (by kernel_rfl) (fun _ _ _ h => h) (by rfl) hHeld ?y11_68 ?_
    case y11_68 => (intro w hSw; (try dsimp only at hSw); go_simp; try with_reducible rfl)
    try simp only [Act.put, List.setIfInBounds_toArray, List.set_cons_zero, List.set_cons_succ]
    refine held_take (i := 69) (v := ?_) rfl (by kernel_rfl) (by kernel_rfl) (by kernel_rfl) (fun _ _ _ h => h) (by rfl) hHeld ?y11_69 ?_
    case y11_69 => (intro w hSw; (try dsimp only at hSw); go_simp; try with_reducible rfl)
    try simp only [Act.put, List.setIfInBounds_toArray, List.set_cons_zero, List.set_cons_succ]
    refine held_take (i := 70) (v := ?_) rfl (by kernel_rfl) (by kernel_rfl) (by kernel_rfl) (fun _ _ _ h => h) (by rfl) hHeld ?y11_70 ?_
    case y11_70 => (intro w hSw; (try dsimp only at hSw); go_simp; try with_reducible rfl)
    try simp only [Act.put, List.setIfInBounds_toArray, List.set_cons_zero, List.set_cons_succ]
    refine held_take (i := 71) (v := ?_) rfl (by kernel_rfl) (by kernel_rfl) (by kernel_rfl) (fun _ _ _ h => h) (by rfl) hHeld ?y11_71 ?_
    case y11_71 => (intro w hSw; (try dsimp only at hSw); go_simp; try with_reducible rfl)
    try simp only [Act.put, List.setIfInBounds_toArray, List.set_cons_zero, List.set_cons_succ]
    refine held_take (i := 72) (v := ?_) rfl (by kernel_rfl) (by kernel_rfl) (by kernel_rfl) (fun _ _ _ h => h) (by rfl) hHeld ?y11_72 ?_
    case y11_72 => (intro w hSw; (try dsimp only at hSw); go_simp; try with_reducible rfl)
    try simp only [Act.put, List.setIfInBounds_toArray, List.set_cons_zero, List.set_cons_succ]
    refine held_take (i := 73) (v := ?_) rfl (by kernel_rfl) (by kernel_rfl) (by kernel_rfl) (fun _ _ _ h => h) (by rfl) hHeld ?y11_73 ?_
    case y11_73 => (intro w hSw; (try dsimp only at hSw); go_simp; try with_reducible rfl)
    try simp only [Act.put, List.setIfInBounds_toArray, List.set_cons_zero, List.set_cons_succ]
    refine held_take (i := 74) (v := ?_) rfl (by kernel_rfl) (by kernel_rfl) (by kernel_rfl) (fun _ _ _ h => h) (by rfl) hHeld ?y11_74 ?_
    case y11_74 => (intro w hSw; (try dsimp only at hSw); go_simp; try with_reducible rfl)
    try simp only [Act.put, List.setIfInBounds_toArray, List.set_cons_zero, List.set_cons_succ]
    refine held_take (i := 75) (v := ?_) rfl (by kernel_rfl) (by kernel_rfl) (by kernel_rfl) (fun _ _ _ h => h) (by rfl) hHeld ?y11_75 ?_
    case y11_75 => (intro w hSw; (try dsimp only at hSw); go_simp; try with_reducible rfl)
    try simp only [Act.put, List.setIfInBounds_toArray, List.set_cons_zero, List.set_cons_succ]
    refine held_take (i := 76) (v := ?_) rfl (by kernel_rfl) (by kernel_rfl) (by kernel_rfl) (fun _ _ _ h => h) (by rfl) hHeld ?y11_76 ?_
    case y11_76 => (intro w hSw; (try dsimp only at hSw); go_simp; try with_reducible rfl)
    try simp only [Act.put, List.setIfInBounds_toArray, List.set_cons_zero, List.set_cons_succ]
    refine held_take (i := 77) (v := ?_) rfl (by kernel_rfl) (by kernel_rfl) (by kernel_rfl) (fun _ _ _ h => h) (by rfl) hHeld ?y11_77 ?_
    case y11_77 => (intro w hSw; (try dsimp only at hSw); go_simp; try with_reducible rfl)
    try simp only [Act.put, List.setIfInBounds_toArray, List.set_cons_zero, List.set_cons_succ]
    refine wpAnyH_done (by kernel_rfl) ?_ _
    refine NoPanic.normal ?_
    go_wp2
    go_ret
    exact ⟨rfl, HB8.out.trans ((HB15.trans (hHeld.1.mono HB15.size)).mono HB8.out.size)⟩
  · refine wp_region_noPanic ?_
    refine wp_region_held_drew (S := fun W => Below w8.heap.size w8 W ∧ (convert 22 9 (.slice A3 X.length c3)).run Try.prog W = .ok (.string (strOfNums X)) W ∧ (convert 22 9 (.slice A4 X.length c4)).run Try.prog W = .ok (.string (strOfNums X)) W ∧ (convert 22 9 (.slice B3 R.length d3)).run Try.prog W = .ok (.string (strOfNums R)) W ∧ (convert 22 9 (.slice B4 R.length d4)).run Try.prog W = .ok (.string (strOfNums R)) W ∧ (convert 22 9 (.slice A7 U.length c7)).run Try.prog W = .ok (.string (strOfNums U)) W ∧ (convert 22 9 (.slice A8 U.length c8)).run Try.prog W = .ok (.string (strOfNums U)) W) (by kernel_rfl) (SS _ (Below.refl _ _).drew) (fun hHeld => ?_)
    refine held_take (i := 0) (v := ?_) rfl (by kernel_rfl) (by kernel_rfl) (by kernel_rfl) (fun _ _ _ h => h) (by rfl) hHeld ?y11_0 ?_
    case y11_0 => (intro w hSw; (try dsimp only at hSw); go_simp; try with_reducible rfl)
    try simp only [Act.put, List.setIfInBounds_toArray, List.set_cons_zero, List.set_cons_succ]
    refine held_take (i := 3) (v := ?_) rfl (by kernel_rfl) (by kernel_rfl) (by kernel_rfl) (fun _ _ _ h => h) (by rfl) hHeld ?y11_3 ?_
    case y11_3 => (intro w hSw; (try dsimp only at hSw); go_simp; try with_reducible rfl)
    try simp only [Act.put, List.setIfInBounds_toArray, List.set_cons_zero, List.set_cons_succ]
    refine held_one (i := 1) (by kernel_rfl) rfl (fun K hK => ?_)
    (refine step_call (by rfl) _ _ (by rfl) Try.func27 (by kernel_rfl) (by kernel_rfl) (by simp only [List.map_toArray, List.map_cons, List.map_nil]; rfl) ((HF1.out _ (Hr0.out.below hHeld.1)).mono ?_); rintro e w11 ⟨v11, rfl, ho11, hb11⟩; obtain ⟨A11, c11, rfl, hc11, hr11⟩ := ho11.rd; have HB11 := hHeld.1.trans (hb11.mono hHeld.1.size); have hS1 := SS _ HB11; refine ⟨_, rfl, ?_⟩)
    refine hK.out _ _ ?_ (fun hHeld => ?_)
    · exact hS1
    clear hK K
    try simp only [Act.put, List.setIfInBounds_toArray, List.set_cons_zero, List.set_cons_succ]
    have SS1 := fun W (h : Below w11.heap.size w11 W) => (⟨h, conv_bytes_string (P := Try.prog) 22 5 9 Try.underlying22 Try.underlying5 Try.underlying9 (hr11.below h) c11, (SS W (HB11.trans (h.mono HB11.size))).2⟩ : Below w11.heap.size w11 W ∧ (convert 22 9 (.slice A11 F.length c11)).run Try.prog W = .ok (.string (strOfNums F)) W ∧ (convert 22 9 (.slice A3 X.length c3)).run Try.prog W = .ok (.string (strOfNums X)) W ∧ (convert 22 9 (.slice A4 X.length c4)).run Try.prog W = .ok (.string (strOfNums X)) W ∧ (convert 22 9 (.slice B3 R.length d3)).run Try.prog W = .ok (.string (strOfNums R)) W ∧ (convert 22 9 (.slice B4 R.length d4)).run Try.prog W = .ok (.string (strOfNums R)) W ∧ (convert 22 9 (.slice A7 U.length c7)).run Try.prog W = .ok (.string (strOfNums U)) W ∧ (convert 22 9 (.slice A8 U.length c8)).run Try.prog W = .ok (.string (strOfNums U)) W)
    refine held_rebase (S' := fun W => Below w11.heap.size w11 W ∧ (convert 22 9 (.slice A11 F.length c11)).run Try.prog W = .ok (.string (strOfNums F)) W ∧ (convert 22 9 (.slice A3 X.length c3)).run Try.prog W = .ok (.string (strOfNums X)) W ∧ (convert 22 9 (.slice A4 X.length c4)).run Try.prog W = .ok (.string (strOfNums X)) W ∧ (convert 22 9 (.slice B3 R.length d3)).run Try.prog W = .ok (.string (strOfNums R)) W ∧ (convert 22 9 (.slice B4 R.length d4)).run Try.prog W = .ok (.string (strOfNums R)) W ∧ (convert 22 9 (.slice A7 U.length c7)).run Try.prog W = .ok (.string (strOfNums U)) W ∧ (convert 22 9 (.slice A8 U.length c8)).run Try.prog W = .ok (.string (strOfNums U)) W) (fun W h => SS W (HB11.trans (h.1.mono HB11.size))) _ _ _ _ ?_
    replace hHeld := SS1 _ (Below.refl _ _)
    clear hS1 ho11 hb11 hr11
    refine held_take (i := 2) (v := ?_) rfl (by kernel_rfl) (by kernel_rfl) (by kernel_rfl) (fun _ _ _ h => h) (by rfl) hHeld ?y11_2 ?_
    case y11_2 => (intro w hSw; (try dsimp only at hSw); go_simp; try with_reducible rfl)
    try simp only [Act.put, List.setIfInBounds_toArray, List.set_cons_zero, List.set_cons_succ]
    refine held_one (i := 4) (by kernel_rfl) rfl (fun K hK => ?_)
    (refine step_call (by rfl) _ _ (by rfl) Try.func36 (by kernel_rfl) (by kernel_rfl) (by simp only [List.map_toArray, List.map_cons, List.map_nil]; rfl) ((HF2.out _ (Hr0.out.below (HB11.trans (hHeld.1.mono HB11.size)))).mono ?_); rintro e w12 ⟨v12, rfl, ho12, hb12⟩; obtain ⟨A12, c12, rfl, hc12, hr12⟩ := ho12.rd; have HC12 := hHeld.1.trans (hb12.mono hHeld.1.size); have hS4 := SS1 _ HC12; refine ⟨_, rfl, ?_⟩)
    refine hK.out _ _ ?_ (fun hHeld => ?_)
    · exact hS4
    clear hK K
    try simp only [Act.put, List.setIfInBounds_toArray, List.set_cons_zero, List.set_cons_succ]
    have SS2 := fun W (h : Below w12.heap.size w12 W) => (⟨h, conv_bytes_string (P := Try.prog) 22 5 9 Try.underlying22 Try.underlying5 Try.underlying9 (hr12.below h) c12, (SS1 W (HC12.trans (h.mono HC12.size))).2⟩ : Below w12.heap.size w12 W ∧ (convert 22 9 (.slice A12 F.length c12)).run Try.prog W = .ok (.string (strOfNums F)) W ∧ (convert 22 9 (.slice A11 F.length c11)).run Try.prog W = .ok (.string (strOfNums F)) W ∧ (convert 22 9 (.slice A3 X.length c3)).run Try.prog W = .ok (.string (strOfNums X)) W ∧ (convert 22 9 (.slice A4 X.length c4)).run Try.prog W = .ok (.string (strOfNums X)) W ∧ (convert 22 9 (.slice B3 R.length d3)).run Try.prog W = .ok (.string (strOfNums R)) W ∧ (convert 22 9 (.slice B4 R.length d4)).run Try.prog W = .ok (.string (strOfNums R)) W ∧ (convert 22 9 (.slice A7 U.length c7)).run Try.prog W = .ok (.string (strOfNums U)) W ∧ (convert 22 9 (.slice A8 U.length c8)).run Try.prog W = .ok (.string (strOfNums U)) W)
    refine held_rebase (S' := fun W => Below w12.heap.size w12 W ∧ (convert 22 9 (.slice A12 F.length c12)).run Try.prog W = .ok (.string (strOfNums F)) W ∧ (convert 22 9 (.slice A11 F.length c11)).run Try.prog W = .ok (.string (strOfNums F)) W ∧ (convert 22 9 (.slice A3 X.length c3)).run Try.prog W = .ok (.string (strOfNums X)) W ∧ (convert 22 9 (.slice A4 X.length c4)).run Try.prog W = .ok (.string (strOfNums X)) W ∧ (convert 22 9 (.slice B3 R.length d3)).run Try.prog W = .ok (.string (strOfNums R)) W ∧ (convert 22 9 (.slice B4 R.length d4)).run Try.prog W = .ok (.string (strOfNums R)) W ∧ (convert 22 9 (.slice A7 U.length c7)).run Try.prog W = .ok (.string (strOfNums U)) W ∧ (convert 22 9 (.slice A8 U.length c8)).run Try.prog W = .ok (.string (strOfNums U)) W) (fun W h => SS1 W (HC12.trans (h.1.mono HC12.size))) _ _ _ _ ?_
    replace hHeld := SS2 _ (Below.refl _ _)
    have HB12 := HB11.trans (HC12.mono HB11.size)
    clear hS4 ho12 hb12 hr12
    refine held_take (i := 5) (v := ?_) rfl (by kernel_rfl) (by kernel_rfl) (by kernel_rfl) (fun _ _ _ h => h) (by rfl) hHeld ?y11_5 ?_
    case y11_5 => (intro w hSw; (try dsimp only at hSw); go_simp; try with_reducible rfl)
    try simp only [Act.put, List.setIfInBounds_toArray, List.set_cons_zero, List.set_cons_succ]
    refine held_take (i := 6) (v := ?_) rfl (by kernel_rfl) (by kernel_rfl) (by kernel_rfl) (fun _ _ _ h => h) (by rfl) hHeld ?y11_6 ?_
    case y11_6 => (intro w hSw; (try dsimp only at hSw); go_simp; try with_reducible rfl)
    try simp only [Act.put, List.setIfInBounds_toArray, List.set_cons_zero, List.set_cons_succ]
    refine held_take (i := 7) (v := ?_) rfl (by kernel_rfl) (by kernel_rfl) (by kernel_rfl) (fun _ _ _ h => h) (by rfl) hHeld ?y11_7 ?_
    case y11_7 => (intro w hSw; (try dsimp only at hSw); go_simp; try with_reducible rfl)
    try simp only [Act.put, List.setIfInBounds_toArray, List.set_cons_zero, List.set_cons_succ]
    refine held_take (i := 8) (v := ?_) rfl (by kernel_rfl) (by kernel_rfl) (by kernel_rfl) (fun _ _ _ h => h) (by rfl) hHeld ?y11_8 ?_
    case y11_8 => (intro w hSw; (try dsimp only at hSw); go_simp; try with_reducible rfl)
    try simp only [Act.put, List.setIfInBounds_toArray, List.set_cons_zero, List.set_cons_succ]
    refine held_take (i := 9) (v := ?_) rfl (by kernel_rfl) (by kernel_rfl) (by kernel_rfl) (fun _ _ _ h => h) (by rfl) hHeld ?y11_9 ?_
    case y11_9 => (intro w hSw; (try dsimp only at hSw); go_simp; try with_reducible rfl)
    try simp only [Act.put, List.setIfInBounds_toArray, List.set_cons_zero, List.set_cons_succ]
    refine held_take (i := 10) (v := ?_) rfl (by kernel_rfl) (by kernel_rfl) (by kernel_rfl) (fun _ _ _ h => h) (by rfl) hHeld ?y11_10 ?_
    case y11_10 => (intro w hSw; (try dsimp only at hSw); go_simp; try with_reducible rfl)
    try simp only [Act.put, List.setIfInBounds_toArray, List.set_cons_zero, List.set_cons_succ]
    refine held_take (i := 11) (v := ?_) rfl (by kernel_rfl) (by kernel_rfl) (by kernel_rfl) (fun _ _ _ h => h) (by rfl) hHeld ?y11_11 ?_
    case y11_11 => (intro w hSw; (try dsimp only at hSw); go_simp; try with_reducible rfl)
    try simp only [Act.put, List.setIfInBounds_toArray, List.set_cons_zero, List.set_cons_succ]
    refine held_take (i := 12) (v := ?_) rfl (by kernel_rfl) (by kernel_rfl) (by kernel_rfl) (fun _ _ _ h => h) (by rfl) hHeld ?y11_12 ?_
    case y11_12 => (intro w hSw; (try dsimp only at hSw); go_simp; try with_reducible rfl)
    try simp only [Act.put, List.setIfInBounds_toArray, List.set_cons_zero, List.set_cons_succ]
    refine held_take (i := 13) (v := ?_) rfl (by kernel_rfl) (by kernel_rfl) (by kernel_rfl) (fun _ _ _ h => h) (by rfl) hHeld ?y11_13 ?_
    case y11_13 => (intro w hSw; (try dsimp only at hSw); go_simp; try with_reducible rfl)
    try simp only [Act.put, List.setIfInBounds_toArray, List.set_cons_zero, List.set_cons_succ]
    refine held_take (i := 14) (v := ?_) rfl (by kernel_rfl) (by kernel_rfl) (by kernel_rfl) (fun _ _ _ h => h) (by rfl) hHeld ?y11_14 ?_
    case y11_14 => (intro w hSw; (try dsimp only at hSw); go_simp; try with_reducible rfl)
    try simp only [Act.put, List.setIfInBounds_toArray, List.set_cons_zero, List.set_cons_succ]
    refine held_take (i := 15) (v := ?_) rfl (by kernel_rfl) (by kernel_rfl) (by kernel_rfl) (fun _ _ _ h => h) (by rfl) hHeld ?y11_15 ?_
    case y11_15 => (intro w hSw; (try dsimp only at hSw); go_simp; try with_reducible rfl)
    try simp only [Act.put, List.setIfInBounds_toArray, List.set_cons_zero, List.set_cons_succ]
    refine held_take (i := 16) (v := ?_) rfl (by kernel_rfl) (by kernel_rfl) (by kernel_rfl) (fun _ _ _ h => h) (by rfl) hHeld ?y11_16 ?_
    case y11_16 => (intro w hSw; (try dsimp only at hSw); go_simp; try with_reducible rfl)
    try simp only [Act.put, List.setIfInBounds_toArray, List.set_cons_zero, List.set_cons_succ]
    refine held_take (i := 17) (v := ?_) rfl (by kernel_rfl) (by kernel_rfl) (by kernel_rfl) (fun _ _ _ h => h) (by rfl) hHeld ?y11_17 ?_
    case y11_17 => (intro w hSw; (try dsimp only at hSw); go_simp; try with_reducible rfl)
    try simp only [Act.put, List.setIfInBounds_toArray, List.set_cons_zero, List.set_cons_succ]
    refine held_take (i := 18) (v := ?_) rfl (by kernel_rfl) (by kernel_rfl) (by kernel_rfl) (fun _ _ _ h => h) (by rfl) hHeld ?y11_18 ?_
    case y11_18 => (intro w hSw; (try dsimp only at hSw); go_simp; try with_reducible rfl)
    try simp only [Act.put, List.setIfInBounds_toArray, List.set_cons_zero, List.set_cons_succ]
    refine held_take (i := 19) (v := ?_) rfl (by kernel_rfl) (by kernel_rfl) (by kernel_rfl) (fun _ _ _ h => h) (by rfl) hHeld ?y11_19 ?_
    case y11_19 => (intro w hSw; (try dsimp only at hSw); go_simp; try with_reducible rfl)
    try simp only [Act.put, List.setIfInBounds_toArray, List.set_cons_zero, List.set_cons_succ]
    refine held_take (i := 20) (v := ?_) rfl (by kernel_rfl) (by kernel_rfl) (by kernel_rfl) (fun _ _ _ h => h) (by rfl) hHeld ?y11_20 ?_
    case y11_20 => (intro w hSw; (try dsimp only at hSw); go_simp; try with_reducible rfl)
    try simp only [Act.put, List.setIfInBounds_toArray, List.set_cons_zero, List.set_cons_succ]
    refine held_take (i := 21) (v := ?_) rfl (by kernel_rfl) (by kernel_rfl) (by kernel_rfl) (fun _ _ _ h => h) (by rfl) hHeld ?y11_21 ?_
    case y11_21 => (intro w hSw; (try dsimp only at hSw); go_simp; try with_reducible rfl)
    try simp only [Act.put, List.setIfInBounds_toArray, List.set_cons_zero, List.set_cons_succ]
    refine held_take (i := 22) (v := ?_) rfl (by kernel_rfl) (by kernel_rfl) (by kernel_rfl) (fun _ _ _ h => h) (by rfl) hHeld ?y11_22 ?_
    case y11_22 => (intro w hSw; (try dsimp only at hSw); go_simp; try with_reducible rfl)
    try simp only [Act.put, List.setIfInBounds_toArray, List.set_cons_zero, List.set_cons_succ]
    refine held_take (i := 23) (v := ?_) rfl (by kernel_rfl) (by kernel_rfl) (by kernel_rfl) (fun _ _ _ h => h) (by rfl) hHeld ?y11_23 ?_
    case y11_23 => (intro w hSw; (try dsimp only at hSw); go_simp; try with_reducible rfl)
    try simp only [Act.put, List.setIfInBounds_toArray, List.set_cons_zero, List.set_cons_succ]
    refine held_take (i := 24) (v := ?_) rfl (by kernel_rfl) (by kernel_rfl) (by kernel_rfl) (fun _ _ _ h => h) (by rfl) hHeld ?y11_24 ?_
    case y11_24 => (intro w hSw; (try dsimp only at hSw); go_simp; try with_reducible rfl)
    try simp only [Act.put, List.setIfInBounds_toArray, List.set_cons_zero, List.set_cons_succ]
    refine held_take (i := 25) (v := ?_) rfl (by kernel_rfl) (by kernel_rfl) (by kernel_rfl) (fun _ _ _ h => h) (by rfl) hHeld ?y11_25 ?_
    case y11_25 => (intro w hSw; (try dsimp only at hSw); go_simp; try with_reducible rfl)
    try simp only [Act.put, List.setIfInBounds_toArray, List.set_cons_zero, List.set_cons_succ]
    refine held_take (i := 26) (v := ?_) rfl (by kernel_rfl) (by kernel_rfl) (by kernel_rfl) (fun _ _ _ h => h) (by rfl) hHeld ?y11_26 ?_
    case y11_26 => (intro w hSw; (try dsimp only at hSw); go_simp; try with_reducible rfl)
    try simp only [Act.put, List.setIfInBounds_toArray, List.set_cons_zero, List.set_cons_succ]
    refine held_take (i := 27) (v := ?_) rfl (by kernel_rfl) (by kernel_rfl) (by kernel_rfl) (fun _ _ _ h => h) (by rfl) hHeld ?y11_27 ?_
    case y11_27 => (intro w hSw; (try dsimp only at hSw); go_simp; try with_reducible rfl)
    try simp only [Act.put, List.setIfInBounds_toArray, List.set_cons_zero, List.set_cons_succ]
    refine held_take (i := 28) (v := ?_) rfl (by kernel_rfl) (by kernel_rfl) (by kernel_rfl) (fun _ _ _ h => h) (by rfl) hHeld ?y11_28 ?_
    case y11_28 => (intro w hSw; (try dsimp only at hSw); go_simp; try with_reducible rfl)
    try simp only [Act.put, List.setIfInBounds_toArray, List.set_cons_zero, List.set_cons_succ]
    refine held_take (i := 29) (v := ?_) rfl (by kernel_rfl) (by kernel_rfl) (by kernel_rfl) (fun _ _ _ h => h) (by rfl) hHeld ?y11_29 ?_
    case y11_29 => (intro w hSw; (try dsimp only at hSw); go_simp; try with_reducible rfl)
    try simp only [Act.put, List.setIfInBounds_toArray, List.set_cons_zero, List.set_cons_succ]
    refine held_take (i := 30) (v := ?_) rfl (by kernel_rfl) (by kernel_rfl) (by kernel_rfl) (fun _ _ _ h => h) (by rfl) hHeld ?y11_30 ?_
    case y11_30 => (intro w hSw; (try dsimp only at hSw); go_simp; try with_reducible rfl)
    try simp only [Act.put, List.setIfInBounds_toArray, List.set_cons_zero, List.set_cons_succ]
    refine held_take (i := 31) (v := ?_) rfl (by kernel_rfl) (by kernel_rfl) (by kernel_rfl) (fun _ _ _ h => h) (by rfl) hHeld ?y11_31 ?_
    case y11_31 => (intro w hSw; (try dsimp only at hSw); go_simp; try with_reducible rfl)
    try simp only [Act.put, List.setIfInBounds_toArray, List.set_cons_zero, List.set_cons_succ]
    refine held_take (i := 32) (v := ?_) rfl (by kernel_rfl) (by kernel_rfl) (by kernel_rfl) (fun _ _ _ h => h) (by rfl) hHeld ?y11_32 ?_
    case y11_32 => (intro w hSw; (try dsimp only at hSw); go_simp; try with_reducible rfl)
    try simp only [Act.put, List.setIfInBounds_toArray, List.set_cons_zero, List.set_cons_succ]
    refine held_take (i := 33) (v := ?_) rfl (by kernel_rfl) (by kernel_rfl) (by kernel_rfl) (fun _ _ _ h => h) (by rfl) hHeld ?y11_33 ?_
    case y11_33 => (intro w hSw; (try dsimp only at hSw); go_simp; try with_reducible rfl)
    try simp only [Act.put, List.setIfInBounds_toArray, List.set_cons_zero, List.set_cons_succ]
    refine held_take (i := 34) (v := ?_) rfl (by kernel_rfl) (by kernel_rfl) (by kernel_rfl) (fun _ _ _ h => h) (by rfl) hHeld ?y11_34 ?_
    case y11_34 => (intro w hSw; (try dsimp only at hSw); go_simp; try with_reducible rfl)
    try simp only [Act.put, List.setIfInBounds_toArray, List.set_cons_zero, List.set_cons_succ]
    refine held_take (i := 35) (v := ?_) rfl (by kernel_rfl) (by kernel_rfl) (by kernel_rfl) (fun _ _ _ h => h) (by rfl) hHeld ?y11_35 ?_
    case y11_35 => (intro w hSw; (try dsimp only at hSw); go_simp; try with_reducible rfl)
    try simp only [Act.put, List.setIfInBounds_toArray, List.set_cons_zero, List.set_cons_succ]
    refine held_take (i := 36) (v := ?_) rfl (by kernel_rfl) (by kernel_rfl) (by kernel_rfl) (fun _ _ _ h => h) (by rfl) hHeld ?y11_36 ?_
    case y11_36 => (intro w hSw; (try dsimp only at hSw); go_simp; try with_reducible rfl)
    try simp only [Act.put, List.setIfInBounds_toArray, List.set_cons_zero, List.set_cons_succ]
    refine held_take (i := 37) (v := ?_) rfl (by kernel_rfl) (by kernel_rfl) (by kernel_rfl) (fun _ _ _ h => h) (by rfl) hHeld ?y11_37 ?_
    case y11_37 => (intro w hSw; (try dsimp only at hSw); go_simp; try with_reducible rfl)
    try simp only [Act.put, List.setIfInBounds_toArray, List.set_cons_zero, List.set_cons_succ]
    refine held_one (i := 38) (by kernel_rfl) rfl (fun K hK => ?_)
    (refine step_call (by rfl) _ _ (by rfl) Try.func32 (by kernel_rfl) (by kernel_rfl) (by simp only [List.map_toArray, List.map_cons, List.map_nil]; rfl) ((HTX.out _ (HB12.trans (hHeld.1.mono HB12.size))).mono ?_); rintro e w13 ⟨rfl, hb13⟩; have hS38 := SS2 _ (hHeld.1.trans (hb13.mono hHeld.1.size)); refine ⟨_, rfl, ?_⟩)
    refine hK.out _ _ ?_ (fun hHeld => ?_)
    · exact hS38
    clear hK K
    try simp only [Act.put, List.setIfInBounds_toArray, List.set_cons_zero, List.set_cons_succ]
    clear hS38 hb13
    refine held_take (i := 39) (v := ?_) rfl (by kernel_rfl) (by kernel_rfl) (by kernel_rfl) (fun _ _ _ h => h) (by rfl) hHeld ?y11_39 ?_
    case y11_39 => (intro w hSw; (try dsimp only at hSw); go_simp; try with_reducible rfl)
    try simp only [Act.put, List.setIfInBounds_toArray, List.set_cons_zero, List.set_cons_succ]
    refine held_take (i := 40) (v := ?_) rfl (by kernel_rfl) (by kernel_rfl) (by kernel_rfl) (fun _ _ _ h => h) (by rfl) hHeld ?y11_40 ?_
    case y11_40 => (intro w hSw; (try dsimp only at hSw); go_simp; try with_reducible rfl)
    try simp only [Act.put, List.setIfInBounds_toArray, List.set_cons_zero, List.set_cons_succ]
    refine held_take (i := 41) (v := ?_) rfl (by kernel_rfl) (by kernel_rfl) (by kernel_rfl) (fun _ _ _ h => h) (by rfl) hHeld ?y11_41 ?_
    case y11_41 => (intro w hSw; (try dsimp only at hSw); go_simp; try with_reducible rfl)
    try simp only [Act.put, List.setIfInBounds_toArray, List.set_cons_zero, List.set_cons_succ]
    refine held_take (i := 42) (v := ?_) rfl (by kernel_rfl) (by kernel_rfl) (by kernel_rfl) (fun _ _ _ h => h) (by rfl) hHeld ?y11_42 ?_
    case y11_42 => (intro w hSw; (try dsimp only at hSw); go_simp; try with_reducible rfl)
    try simp only [Act.put, List.setIfInBounds_toArray, List.set_cons_zero, List.set_cons_succ]
    refine held_take (i := 43) (v := ?_) rfl (by kernel_rfl) (by kernel_rfl) (by kernel_rfl) (fun _ _ _ h => h) (by rfl) hHeld ?y11_43 ?_
    case y11_43 => (intro w hSw; (try dsimp only at hSw); go_simp; try with_reducible rfl)
    try simp only [Act.put, List.setIfInBounds_toArray, List.set_cons_zero, List.set_cons_succ]
    refine held_take (i := 44) (v := ?_) rfl (by kernel_rfl) (by kernel_rfl) (by kernel_rfl) (fun _ _ _ h => h) (by rfl) hHeld ?y11_44 ?_
    case y11_44 => (intro w hSw; (try dsimp only at hSw); go_simp; try with_reducible rfl)
    try simp only [Act.put, List.setIfInBounds_toArray, List.set_cons_zero, List.set_cons_succ]
    refine held_take (i := 45) (v := ?_) rfl (by kernel_rfl) (by kernel_rfl) (by kernel_rfl) (fun _ _ _ h => h) (by rfl) hHeld ?y11_45 ?_
    case y11_45 => (intro w hSw; (try dsimp only at hSw); go_simp; try with_reducible rfl)
    try simp only [Act.put, List.setIfInBounds_toArray, List.set_cons_zero, List.set_cons_succ]
    refine held_take (i := 46) (v := ?_) rfl (by kernel_rfl) (by kernel_rfl) (by kernel_rfl) (fun _ _ _ h => h) (by rfl) hHeld ?y11_46 ?_
    case y11_46 => (intro w hSw; (try dsimp only at hSw); go_simp; try with_reducible rfl)
    try simp only [Act.put, List.setIfInBounds_toArray, List.set_cons_zero, List.set_cons_succ]
    refine held_take (i := 47) (v := ?_) rfl (by kernel_rfl) (by kernel_rfl) (by kernel_rfl) (fun _ _ _ h => h) (by rfl) hHeld ?y11_47 ?_
    case y11_47 => (intro w hSw; (try dsimp only at hSw); go_simp; try with_reducible rfl)
    try simp only [Act.put, List.setIfInBounds_toArray, List.set_cons_zero, List.set_cons_succ]
    refine held_take (i := 50) (v := ?_) rfl (by kernel_rfl) (by kernel_rfl) (by kernel_rfl) (fun _ _ _ h => h) (by rfl) hHeld ?y11_50 ?_
    case y11_50 => (intro w hSw; (try dsimp only at hSw); go_simp; try with_reducible rfl)
    try simp only [Act.put, List.setIfInBounds_toArray, List.set_cons_zero, List.set_cons_succ]
    refine held_take (i := 51) (v := ?_) rfl (by kernel_rfl) (by kernel_rfl) (by kernel_rfl) (fun _ _ _ h => h) (by rfl) hHeld ?y11_51 ?_
    case y11_51 => (intro w hSw; (try dsimp only at hSw); go_simp; try with_reducible rfl)
    try simp only [Act.put, List.setIfInBounds_toArray, List.set_cons_zero, List.set_cons_succ]
    refine held_one (i := 48) (by kernel_rfl) rfl (fun K hK => ?_)
    (refine step_call (by rfl) _ _ (by rfl) Try.func29 (by kernel_rfl) (by kernel_rfl) (by simp only [List.map_toArray, List.map_cons, List.map_nil]; rfl) ((HG1.out _ (Hr0.out.below (HB12.trans (hHeld.1.mono HB12.size)))).mono ?_); rintro e w14 ⟨v14, rfl, ho14, hb14⟩; obtain ⟨A14, c14, rfl, hc14, hr14⟩ := ho14.rd; have HC14 := hHeld.1.trans (hb14.mono hHeld.1.size); have hS48 := SS2 _ HC14; refine ⟨_, rfl, ?_⟩)
    refine hK.out _ _ ?_ (fun hHeld => ?_)
    · exact hS48
    clear hK K
    try simp only [Act.put, List.setIfInBounds_toArray, List.set_cons_zero, List.set_cons_succ]
    have SS3 := fun W (h : Below w14.heap.size w14 W) => (⟨h, conv_bytes_string (P := Try.prog) 22 5 9 Try.underlying22 Try.underlying5 Try.underlying9 (hr14.below h) c14, (SS2 W (HC14.trans (h.mono HC14.size))).2⟩ : Below w14.heap.size w14 W ∧ (convert 22 9 (.slice A14 G.length c14)).run Try.prog W = .ok (.string (strOfNums G)) W ∧ (convert 22 9 (.slice A12 F.length c12)).run Try.prog W = .ok (.string (strOfNums F)) W ∧ (convert 22 9 (.slice A11 F.length c11)).run Try.prog W = .ok (.string (strOfNums F)) W ∧ (convert 22 9 (.slice A3 X.length c3)).run Try.prog W = .ok (.string (strOfNums X)) W ∧ (convert 22 9 (.slice A4 X.length c4)).run Try.prog W = .ok (.string (strOfNums X)) W ∧ (convert 22 9 (.slice B3 R.length d3)).run Try.prog W = .ok (.string (strOfNums R)) W ∧ (convert 22 9 (.slice B4 R.length d4)).run Try.prog W = .ok (.string (strOfNums R)) W ∧ (convert 22 9 (.slice A7 U.length c7)).run Try.prog W = .ok (.string (strOfNums U)) W ∧ (convert 22 9 (.slice A8 U.length c8)).run Try.prog W = .ok (.string (strOfNums U)) W)
    refine held_rebase (S' := fun W => Below w14.heap.size w14 W ∧ (convert 22 9 (.slice A14 G.length c14)).run Try.prog W = .ok (.string (strOfNums G)) W ∧ (convert 22 9 (.slice A12 F.length c12)).run Try.prog W = .ok (.string (strOfNums F)) W ∧ (convert 22 9 (.slice A11 F.length c11)).run Try.prog W = .ok (.string (strOfNums F)) W ∧ (convert 22 9 (.slice A3 X.length c3)).run Try.prog W = .ok (.string (strOfNums X)) W ∧ (convert 22 9 (.slice A4 X.length c4)).run Try.prog W = .ok (.string (strOfNums X)) W ∧ (convert 22 9 (.slice B3 R.length d3)).run Try.prog W = .ok (.string (strOfNums R)) W ∧ (convert 22 9 (.slice B4 R.length d4)).run Try.prog W = .ok (.string (strOfNums R)) W ∧ (convert 22 9 (.slice A7 U.length c7)).run Try.prog W = .ok (.string (strOfNums U)) W ∧ (convert 22 9 (.slice A8 U.length c8)).run Try.prog W = .ok (.string (strOfNums U)) W) (fun W h => SS2 W (HC14.trans (h.1.mono HC14.size))) _ _ _ _ ?_
    replace hHeld := SS3 _ (Below.refl _ _)
    have HB14 := HB12.trans (HC14.mono HB12.size)
    clear hS48 ho14 hb14 hr14
    refine held_take (i := 49) (v := ?_) rfl (by kernel_rfl) (by kernel_rfl) (by kernel_rfl) (fun _ _ _ h => h) (by rfl) hHeld ?y11_49 ?_
    case y11_49 => (intro w hSw; (try dsimp only at hSw); go_simp; try with_reducible rfl)
    try simp only [Act.put, List.setIfInBounds_toArray, List.set_cons_zero, List.set_cons_succ]
    refine held_one (i := 52) (by kernel_rfl) rfl (fun K hK => ?_)
    (refine step_call (by rfl) _ _ (by rfl) Try.func37 (by kernel_rfl) (by kernel_rfl) (by simp only [List.map_toArray, List.map_cons, List.map_nil]; rfl) ((HG2.out _ (Hr0.out.below (HB14.trans (hHeld.1.mono HB14.size)))).mono ?_); rintro e w15 ⟨v15, rfl, ho15, hb15⟩; obtain ⟨A15, c15, rfl, hc15, hr15⟩ := ho15.rd; have HC15 := hHeld.1.trans (hb15.mono hHeld.1.size); have hS52 := SS3 _ HC15; refine ⟨_, rfl, ?_⟩)
    refine hK.out _ _ ?_ (fun hHeld => ?_)
    · exact hS52
    clear hK K
    try simp only [Act.put, List.setIfInBounds_toArray, List.set_cons_zero, List.set_cons_succ]
    have SS4 := fun W (h : Below w15.heap.size w15 W) => (⟨h, conv_bytes_string (P := Try.prog) 22 5 9 Try.underlying22 Try.underlying5 Try.underlying9 (hr15.below h) c15, (SS3 W (HC15.trans (h.mono HC15.size))).2⟩ : Below w15.heap.size w15 W ∧ (convert 22 9 (.slice A15 G.length c15)).run Try.prog W = .ok (.string (strOfNums G)) W ∧ (convert 22 9 (.slice A14 G.length c14)).run Try.prog W = .ok (.string (strOfNums G)) W ∧ (convert 22 9 (.slice A12 F.length c12)).run Try.prog W = .ok (.string (strOfNums F)) W ∧ (convert 22 9 (.slice A11 F.length c11)).run Try.prog W = .ok (.string (strOfNums F)) W ∧ (convert 22 9 (.slice A3 X.length c3)).run Try.prog W = .ok (.string (strOfNums X)) W ∧ (convert 22 9 (.slice A4 X.length c4)).run Try.prog W = .ok (.string (strOfNums X)) W ∧ (convert 22 9 (.slice B3 R.length d3)).run Try.prog W = .ok (.string (strOfNums R)) W ∧ (convert 22 9 (.slice B4 R.length d4)).run Try.prog W = .ok (.string (strOfNums R)) W ∧ (convert 22 9 (.slice A7 U.length c7)).run Try.prog W = .ok (.string (strOfNums U)) W ∧ (convert 22 9 (.slice A8 U.length c8)).run Try.prog W = .ok (.string (strOfNums U)) W)
    refine held_rebase (S' := fun W => Below w15.heap.size w15 W ∧ (convert 22 9 (.slice A15 G.length c15)).run Try.prog W = .ok (.string (strOfNums G)) W ∧ (convert 22 9 (.slice A14 G.length c14)).run Try.prog W = .ok (.string (strOfNums G)) W ∧ (convert 22 9 (.slice A12 F.length c12)).run Try.prog W = .ok (.string (strOfNums F)) W ∧ (convert 22 9 (.slice A11 F.length c11)).run Try.prog W = .ok (.string (strOfNums F)) W ∧ (convert 22 9 (.slice A3 X.length c3)).run Try.prog W = .ok (.string (strOfNums X)) W ∧ (convert 22 9 (.slice A4 X.length c4)).run Try.prog W = .ok (.string (strOfNums X)) W ∧ (convert 22 9 (.slice B3 R.length d3)).run Try.prog W = .ok (.string (strOfNums R)) W ∧ (convert 22 9 (.slice B4 R.length d4)).run Try.prog W = .ok (.string (strOfNums R)) W ∧ (convert 22 9 (.slice A7 U.length c7)).run Try.prog W = .ok (.string (strOfNums U)) W ∧ (convert 22 9 (.slice A8 U.length c8)).run Try.prog W = .ok (.string (strOfNums U)) W) (fun W h => SS3 W (HC15.trans (h.1.mono HC15.size))) _ _ _ _ ?_
    replace hHeld := SS4 _ (Below.refl _ _)
    have HB15 := HB14.trans (HC15.mono HB14.size)
    clear hS52 ho15 hb15 hr15
    refine held_take (i := 53) (v := ?_) rfl (by kernel_rfl) (by kernel_rfl) (by kernel_rfl) (fun _ _ _ h => h) (by rfl) hHeld ?y11_53 ?_
    case y11_53 => (intro w hSw; (try dsimp only at hSw); go_simp; try with_reducible rfl)
    try simp only [Act.put, List.setIfInBounds_toArray, List.set_cons_zero, List.set_cons_succ]
    refine held_take (i := 54) (v := ?_) rfl (by kernel_rfl) (by kernel_rfl) (by kernel_rfl) (fun _ _ _ h => h) (by rfl) hHeld ?y11_54 ?_
    case y11_54 => (intro w hSw; (try dsimp only at hSw); go_simp; try with_reducible rfl)
    try simp only [Act.put, List.setIfInBounds_toArray, List.set_cons_zero, List.set_cons_succ]
    refine held_take (i := 55) (v := ?_) rfl (by kernel_rfl) (by kernel_rfl) (by kernel_rfl) (fun _ _ _ h => h) (by rfl) hHeld ?y11_55 ?_
    case y11_55 => (intro w hSw; (try dsimp only at hSw); go_simp; try with_reducible rfl)
    try simp only [Act.put, List.setIfInBounds_toArray, List.set_cons_zero, List.set_cons_succ]
    refine held_take (i := 56) (v := ?_) rfl (by kernel_rfl) (by kernel_rfl) (by kernel_rfl) (fun _ _ _ h => h) (by rfl) hHeld ?y11_56 ?_
    case y11_56 => (intro w hSw; (try dsimp only at hSw); go_simp; try with_reducible rfl)
    try simp only [Act.put, List.setIfInBounds_toArray, List.set_cons_zero, List.set_cons_succ]
    refine held_take (i := 57) (v := ?_) rfl (by kernel_rfl) (by kernel_rfl) (by kernel_rfl) (fun _ _ _ h => h) (by rfl) hHeld ?y11_57 ?_
    case y11_57 => (intro w hSw; (try dsimp only at hSw); go_simp; try with_reducible rfl)
    try simp only [Act.put, List.setIfInBounds_toArray, List.set_cons_zero, List.set_cons_succ]
    refine held_take (i := 58) (v := ?_) rfl (by kernel_rfl) (by kernel_rfl) (by kernel_rfl) (fun _ _ _ h => h) (by rfl) hHeld ?y11_58 ?_
    case y11_58 => (intro w hSw; (try dsimp only at hSw); go_simp; try with_reducible rfl)
    try simp only [Act.put, List.setIfInBounds_toArray, List.set_cons_zero, List.set_cons_succ]
    refine held_take (i := 59) (v := ?_) rfl (by kernel_rfl) (by kernel_rfl) (by kernel_rfl) (fun _ _ _ h => h) (by rfl) hHeld ?y11_59 ?_
    case y11_59 => (intro w hSw; (try dsimp only at hSw); go_simp; try with_reducible rfl)
    try simp only [Act.put, List.setIfInBounds_toArray, List.set_cons_zero, List.set_cons_succ]
    refine held_take (i := 60) (v := ?_) rfl (by kernel_rfl) (by kernel_rfl) (by kernel_rfl) (fun _ _ _ h => h) (by rfl) hHeld ?y11_60 ?_
    case y11_60 => (intro w hSw; (try dsimp only at hSw); go_simp; try with_reducible rfl)
    try simp only [Act.put, List.setIfInBounds_toArray, List.set_cons_zero, List.set_cons_succ]
    refine held_take (i := 61) (v := ?_) rfl (by kernel_rfl) (by kernel_rfl) (by kernel_rfl) (fun _ _ _ h => h) (by rfl) hHeld ?y11_61 ?_
    case y11_61 => (intro w hSw; (try dsimp only at hSw); go_simp; try with_reducible rfl)
    try simp only [Act.put, List.setIfInBounds_toArray, List.set_cons_zero, List.set_cons_succ]
    refine held_take (i := 62) (v := ?_) rfl (by kernel_rfl) (by kernel_rfl) (by kernel_rfl) (fun _ _ _ h => h) (by rfl) hHeld ?y11_62 ?_
    case y11_62 => (intro w hSw; (try dsimp only at hSw); go_simp; try with_reducible rfl)
    try simp only [Act.put, List.setIfInBounds_toArray, List.set_cons_zero, List.set_cons_succ]
    refine held_take (i := 63) (v := ?_) rfl (by kernel_rfl) (by kernel_rfl) (by kernel_rfl) (fun _ _ _ h => h) (by rfl) hHeld ?y11_63 ?_
    case y11_63 => (intro w hSw; (try dsimp only at hSw); go_simp; try with_reducible rfl)
    try simp only [Act.put, List.setIfInBounds_toArray, List.set_cons_zero, List.set_cons_succ]
    refine held_take (i := 64) (v := ?_) rfl (by kernel_rfl) (by kernel_rfl) (by kernel_rfl) (fun _ _ _ h => h) (by rfl) hHeld ?y11_64 ?_
    case y11_64 => (intro w hSw; (try dsimp only at hSw); go_simp; try with_reducible rfl)
    try simp only [Act.put, List.setIfInBounds_toArray, List.set_cons_zero, List.set_cons_succ]
    refine held_take (i := 65) (v := ?_) rfl (by kernel_rfl) (by kernel_rfl) (by kernel_rfl) (fun _ _ _ h => h) (by rfl) hHeld ?y11_65 ?_
    case y11_65 => (intro w hSw; (try dsimp only at hSw); go_simp; try with_reducible rfl)
    try simp only [Act.put, List.setIfInBounds_toArray, List.set_cons_zero, List.set_cons_succ]
    refine held_take (i := 66) (v := ?_) rfl (by kernel_rfl) (by kernel_rfl) (by kernel_rfl) (fun _ _ _ h => h) (by rfl) hHeld ?y11_66 ?_
    case y11_66 => (intro w hSw; (try dsimp only at hSw); go_simp; try with_reducible rfl)
    try simp only [Act.put, List.setIfInBounds_toArray, List.set_cons_zero, List.set_cons_succ]
    refine held_take (i := 67) (v := ?_) rfl (by kernel_rfl) (by kernel_rfl) (by kernel_rfl) (fun _ _ _ h => h) (by rfl) hHeld ?y11_67 ?_
    case y11_67 => (intro w hSw; (try dsimp only at hSw); go_simp; try with_reducible rfl)
    try simp only [Act.put, List.setIfInBounds_toArray, List.set_cons_zero, List.set_cons_succ]
    refine held_take (i := 68) (v := ?_) rfl (by kernel_rfl) (by kernel_rfl) (by kernel_rfl) (fun _ _ _ h => h) (by rfl) hHeld ?y11_68 ?_
    case y11_68 => (intro w hSw; (try dsimp only at hSw); go_simp; try with_reducible rfl)
    try simp only [Act.put, List.setIfInBounds_toArray, List.set_cons_zero, List.set_cons_succ]
    refine held_take (i := 69) (v := ?_) rfl (by kernel_rfl) (by kernel_rfl) (by kernel_rfl) (fun _ _ _ h => h) (by rfl) hHeld ?y11_69 ?_
    case y11_69 => (intro w hSw; (try dsimp only at hSw); go_simp; try with_reducible rfl)
    try simp only [Act.put, List.setIfInBounds_toArray, List.set_cons_zero, List.set_cons_succ]
    refine held_take (i := 70) (v := ?_) rfl (by kernel_rfl) (by kernel_rfl) (by kernel_rfl) (fun _ _ _ h => h) (by rfl) hHeld ?y11_70 ?_
    case y11_70 => (intro w hSw; (try dsimp only at hSw); go_simp; try with_reducible rfl)
    try simp only [Act.put, List.setIfInBounds_toArray, List.set_cons_zero, List.set_cons_succ]
    refine held_take (i := 71) (v := ?_) rfl (by kernel_rfl) (by kernel_rfl) (by kernel_rfl) (fun _ _ _ h => h) (by rfl) hHeld ?y11_71 ?_
    case y11_71 => (intro w hSw; (try dsimp only at hSw); go_simp; try with_reducible rfl)
    try simp only [Act.put, List.setIfInBounds_toArray, List.set_cons_zero, List.set_cons_succ]
    refine held_take (i := 72) (v := ?_) rfl (by kernel_rfl) (by kernel_rfl) (by kernel_rfl) (fun _ _ _ h => h) (by rfl) hHeld ?y11_72 ?_
    case y11_72 => (intro w hSw; (try dsimp only at hSw); go_simp; try with_reducible rfl)
    try simp only [Act.put, List.setIfInBounds_toArray, List.set_cons_zero, List.set_cons_succ]
    refine held_take (i := 73) (v := ?_) rfl (by kernel_rfl) (by kernel_rfl) (by kernel_rfl) (fun _ _ _ h => h) (by rfl) hHeld ?y11_73 ?_
    case y11_73 => (intro w hSw; (try dsimp only at hSw); go_simp; try with_reducible rfl)
    try simp only [Act.put, List.setIfInBounds_toArray, List.set_cons_zero, List.set_cons_succ]
    refine held_take (i := 74) (v := ?_) rfl (by kernel_rfl) (by kernel_rfl) (by kernel_rfl) (fun _ _ _ h => h) (by rfl) hHeld ?y11_74 ?_
    case y11_74 => (intro w hSw; (try dsimp only at hSw); go_simp; try with_reducible rfl)
    try simp only [Act.put, List.setIfInBounds_toArray, List.set_cons_zero, List.set_cons_succ]
    refine held_take (i := 75) (v := ?_) rfl (by kernel_rfl) (by kernel_rfl) (by kernel_rfl) (fun _ _ _ h => h) (by rfl) hHeld ?y11_75 ?_
    case y11_75 => (intro w hSw; (try dsimp only at hSw); go_simp; try with_reducible rfl)
    try simp only [Act.put, List.setIfInBounds_toArray, List.set_cons_zero, List.set_cons_succ]
    refine held_take (i := 76) (v := ?_) rfl (by kernel_rfl) (by kernel_rfl) (by kernel_rfl) (fun _ _ _ h => h) (by rfl) hHeld ?y11_76 ?_
    case y11_76 => (intro w hSw; (try dsimp only at hSw); go_simp; try with_reducible rfl)
    try simp only [Act.put, List.setIfInBounds_toArray, List.set_cons_zero, List.set_cons_succ]
    refine held_take (i := 77) (v := ?_) rfl (by kernel_rfl) (by kernel_rfl) (by kernel_rfl) (fun _ _ _ h => h) (by rfl) hHeld ?y11_77 ?_
    case y11_77 => (intro w hSw; (try dsimp only at hSw); go_simp; try with_reducible rfl)
    try simp only [Act.put, List.setIfInBounds_toArray, List.set_cons_zero, List.set_cons_succ]
    refine wpAnyH_done (by kernel_rfl) ?_ _
    refine NoPanic.normal ?_
    go_wp2
    go_ret
    exact ⟨rfl, HB8.out.trans ((HB15.trans (hHeld.1.mono HB15.size)).mono HB8.out.size)⟩
end Go.Proofs.Yteebojnabifccaa
