import Derived.Test.YthgjpppbpgndcaaGreatDoorTagCanonL
/- tag.Canon. -/
namespace Go.Proofs.YthgjpppbpgndcaaGreatDoor
open Go.RowKit Go.Shelf Go.Proofs.YthgjpppbpgndcaaGreatDoorW.PrintWords Go.Proofs.YthgjpppbpgndcaaGreatDoorW.PrintMore

attribute [local go_sem] Oper.semAt_some

/-- What a call of Canon hands back. -/
def CanonP (w : World) (r : Option (List UInt8)) (e : Ending) (w' : World) : Prop := e = .returned (.tuple #[.string (S (r.getD [])), .int .i64 (errC r)]) ∧ Below w.heap.size w w'

set_option maxRecDepth 100000 in
set_option maxHeartbeats 8000000 in
theorem canon_in (n : Nat) (l : List UInt8) (w : World) (hM : ML w) :
    CallsIn Fence.wide n Tryz.prog 34 #[.string (S l)] w (CanonP w (canonL l)) := by
  refine callsIn_of_wp_marks Tryz.func34 rfl trivial ?_ rfl
  simp only [Tryz.ntmps34, List.size_toArray, List.length_cons, List.length_nil, Nat.reduceAdd, Nat.reduceSub, Array.replicate_succ, Array.replicate_zero, List.push_toArray, List.append_toArray, List.nil_append, List.cons_append]
  obtain ⟨i0, hi, hz0, hz1, hz2⟩ := info_parts info9
  have hz := S_size l
  have HM := Lib.hid hM
  obtain ⟨b0, b1, hB0, hsz0⟩ := boxes0 w
  have hB0' := Lib.hid hB0
  obtain ⟨W0, hW0⟩ : ∃ W0, (w.alloc (.cells #[.string (S [])] 9)).alloc (.cells #[.int .i64 0] 26) = W0 := ⟨_, rfl⟩
  have HW0 := Lib.hid hW0
  rw [hW0] at b0 b1 hB0' hsz0
  have B0 := Lib.hid b0
  have B1 := Lib.hid b1
  have HS0 := Lib.hid hsz0
  clear hB0 hW0 b0 b1 hsz0
  unfold canonL
  by_cases h40 : 40 < l.length
  · rw [if_pos h40]
    have h40' : (40 : Int) < (l.length : Int) := by omega
    gi_wp2_with fail
    have b2 := Boxed.new w 9 (.string (S []))
    have b3 := Boxed.new (w.alloc (.cells #[.string (S [])] 9)) 26 (.int .i64 100)
    simp only [World.size_alloc] at b3
    exact ⟨.tuple #[.string (S []), .int .i64 100], canon_results _ w.heap.size rfl rfl _ _ _ (b2.alloc _).cell b3.cell, rfl, ((Below.refl _ w).alloc (Nat.le_refl _) _).alloc (by simp) _⟩
  rw [if_neg h40]
  have hl : l.length ≤ 1000000 := by omega
  have h40' : ¬ (40 : Int) < (l.length : Int) := by omega
  have HSM := Lib.hid (tag_small l hl)
  have hr := S_eq (smallL l) rootL
  rw [show (S rootL).toList = [114, 111, 111, 116] from by first | rfl | decide +kernel] at hr
  by_cases hroot : smallL l = rootL
  · rw [if_pos hroot]
    rw [decide_eq_true hroot] at hr
    clear hroot
    gi_wp2_with fail
    refine ⟨trivial, fun h => absurd h (by decide), (callsIn_wide.2 (HSM.out _)).mono ?_⟩
    rintro e w1 ⟨rfl, hb1⟩
    have hb1' : Below W0.heap.size W0 w1 := by rw [← HW0.out]; exact hb1
    have d0 : Boxed w1 w.heap.size 9 (.string (S [])) := (hb1'.block _ B0.out.lt).trans B0.out
    have d1 : Boxed w1 (w.heap.size + 1) 26 (.int .i64 0) := (hb1'.block _ B1.out.lt).trans B1.out
    have c0 := d0.cell
    have f0 := d0.frozen
    have c1 := fun v => (d1.other (B' := w.heap.size) (by omega) v).cell
    have f1 := fun v => (d1.other (B' := w.heap.size) (by omega) v).frozen
    obtain ⟨s0, s1⟩ := set_two d0 d1 (.string (S rootL)) (.int .i64 0)
    have hbb := Lib.hid (below_two (hB0'.out.trans (hb1'.mono hB0'.out.size)) (Nat.le_refl _) (.string (S rootL)) (.int .i64 0))
    have z0 := Lib.hid s0.cell
    have z1 := Lib.hid s1.cell
    clear hb1 hb1' d0 d1 s0 s1
    gi_wp2_with fail
    exact ⟨.tuple #[.string (S rootL), .int .i64 0], canon_results _ w.heap.size rfl rfl _ _ _ z0.out z1.out, rfl, hbb.out⟩
  rw [if_neg hroot]
  rw [decide_eq_false hroot] at hr
  clear hroot
  gi_wp2_with fail
  refine ⟨trivial, fun h => absurd h (by decide), (callsIn_wide.2 (HSM.out _)).mono ?_⟩
  rintro e w1 ⟨rfl, hb1⟩
  have hb1' : Below W0.heap.size W0 w1 := by rw [← HW0.out]; exact hb1
  have hs1 := hb1'.size
  have d0 : Boxed w1 w.heap.size 9 (.string (S [])) := (hb1'.block _ B0.out.lt).trans B0.out
  have d1 : Boxed w1 (w.heap.size + 1) 26 (.int .i64 0) := (hb1'.block _ B1.out.lt).trans B1.out
  have HB1 := Lib.hid (hB0'.out.trans (hb1'.mono hB0'.out.size))
  have hs0 := HS0.out
  clear hb1 hb1'
  gi_wp2_with fail
  have q2 := Boxed.new w1 30 (.slice none 0 0)
  have q3 := Boxed.new (w1.alloc (.cells #[.slice none 0 0] 30)) 3 (.int .i64 0)
  rw [World.size_alloc] at q3
  have q2' := q2.alloc (.cells #[.int .i64 0] 3)
  have q0 := (d0.alloc (.cells #[.slice none 0 0] 30)).alloc (.cells #[.int .i64 0] 3)
  have q1 := (d1.alloc (.cells #[.slice none 0 0] 30)).alloc (.cells #[.int .i64 0] 3)
  have hB2 : Below w.heap.size w ((w1.alloc (.cells #[.slice none 0 0] 30)).alloc (.cells #[.int .i64 0] 3)) := (HB1.out.alloc HB1.out.size _).alloc (by have := HB1.out.size; simp; omega) _
  have hs2 : ((w1.alloc (.cells #[.slice none 0 0] 30)).alloc (.cells #[.int .i64 0] 3)).heap.size = w1.heap.size + 2 := by simp
  generalize (w1.alloc (.cells #[.slice none 0 0] 30)).alloc (.cells #[.int .i64 0] 3) = w2 at q0 q1 q2' q3 hB2 hs2 ⊢
  clear q2 d0 d1
  refine ⟨trivial, fun h => absurd h (by decide), (subtags_in (n - 1) l hl w2 (HM.out.below hB2)).mono ?_⟩
  rintro e w3 ⟨wm, hbm, rfl, rfl⟩
  have hsm := hbm.size
  have r0 : Boxed wm w.heap.size 9 (.string (S [])) := (hbm.block _ q0.lt).trans q0
  have r1 : Boxed wm (w.heap.size + 1) 26 (.int .i64 0) := (hbm.block _ q1.lt).trans q1
  have r2 : Boxed wm w1.heap.size 30 (.slice none 0 0) := (hbm.block _ q2'.lt).trans q2'
  have r3 : Boxed wm (w1.heap.size + 1) 3 (.int .i64 0) := (hbm.block _ q3.lt).trans q3
  have HBm := Lib.hid (hB2.trans (hbm.mono hB2.size))
  clear hbm q0 q1 q2' q3 hB2
  gi_wp2_with fail
  have hsW : (subW wm (normL l)).heap.size = wm.heap.size + 3 := by simp [subW]
  have hbW : Below wm.heap.size wm (subW wm (normL l)) := (((Below.refl _ wm).alloc (Nat.le_refl _) _).alloc (by simp) _).alloc (by simp; omega) _
  have e1 : Boxed (subW wm (normL l)) wm.heap.size 9 (.string (S (normL l))) := ((Boxed.new wm 9 _).alloc _).alloc _
  have e2 : Boxed (subW wm (normL l)) (wm.heap.size + 1) 9 (.string (S [45])) := by
    have := Boxed.new (wm.alloc (.cells #[.string (S (normL l))] 9)) 9 (.string (S [45]))
    rw [World.size_alloc] at this
    exact this.alloc _
  have e3 : Boxed (subW wm (normL l)) (wm.heap.size + 2) 3 (.int .i64 0) := by
    have := Boxed.new ((wm.alloc (.cells #[.string (S (normL l))] 9)).alloc (.cells #[.string (S [45])] 9)) 3 (.int .i64 0)
    rw [World.size_alloc, World.size_alloc] at this
    exact this
  have k0 : Boxed (subW wm (normL l)) w.heap.size 9 (.string (S [])) := (hbW.block _ r0.lt).trans r0
  have k1 : Boxed (subW wm (normL l)) (w.heap.size + 1) 26 (.int .i64 0) := (hbW.block _ r1.lt).trans r1
  have k2 : Boxed (subW wm (normL l)) w1.heap.size 30 (.slice none 0 0) := (hbW.block _ r2.lt).trans r2
  have k3 : Boxed (subW wm (normL l)) (w1.heap.size + 1) 3 (.int .i64 0) := (hbW.block _ r3.lt).trans r3
  have HBs := Lib.hid (HBm.out.trans (hbW.mono HBm.out.size))
  obtain ⟨Ws, hWs⟩ : ∃ Ws, subW wm (normL l) = Ws := ⟨_, rfl⟩
  rw [hWs] at hsW e1 e2 e3 k0 k1 k2 k3 HBs ⊢
  have hI0 : CanI w w1.heap.size (wm.heap.size + 3) [] Ws := ⟨⟨HBs.out, by omega⟩, k0, k1, 0, [], .slice none 0 0, rfl, by omega, fun h => absurd h (by omega), k2, k3, World.ownsRow_nil _ _ _ _⟩
  clear hWs hbW k0 k1 k2 k3 r0 r1 r2 r3 B0 B1 HW0 HS0 hB0' hr HSM h40'
  refine wpIn_rangeT (gf := 102) (lb := #[.pointer (some ⟨wm.heap.size + 1, 0, none⟩), .pointer (some ⟨wm.heap.size, 0, none⟩), .pointer (some ⟨wm.heap.size + 2, 0, none⟩)]) rfl (enters_of Tryz.func102 (by kernel_rfl) rfl)
    (split_seq (n - 1) wm.heap.size w.heap.size w Ws (normL l) (by rw [normL_length]; exact hl) rfl (by omega) HM.out HBs.out e1 e2 e3)
    (fun h k => ⟨h.1.trans k.1, k.2.1.trans h.2.1, k.2.2.1.trans h.2.2.1, k.2.2.2.trans h.2.2.2⟩) (fun W => ⟨Below.refl _ W, rfl, rfl, rfl⟩)
    (fun W k o o' hl ho hc => ⟨(Below.refl _ W).grown (grownBy_putObj' W k o') (by have := (Array.getElem?_eq_some_iff.1 ho).1; omega) (fun k e => by cases e; omega), World.putObj_heap_other (by omega), World.putObj_heap_other (by omega), World.putObj_heap_other (by omega)⟩)
    (Below.refl _ _) (fun _ => rfl) (fun k e => by omega) (fun s x X Y h _ => h)
    (CanI w w1.heap.size (wm.heap.size + 3)) (CanX w)
    (fun s X Y h t => h.turn (by omega) (by omega) (by omega) t) (fun c s X Y h t => h.turn (by omega) (by omega) t) hI0
    (fun x => { tmps := #[.string (S l), undef, .pointer (some ⟨w.heap.size, 0, none⟩), .pointer (some ⟨w.heap.size + 1, 0, none⟩), .pointer (some ⟨w1.heap.size, 0, none⟩), .pointer (some ⟨w1.heap.size + 1, 0, none⟩), .string (S x), .string (S l), .int .i64 (l.length : Int), .bool false, .string (S l), .string (S (smallL l)), .bool false, .string (S l), .func (.func 102) #[] #[.pointer (some ⟨wm.heap.size + 1, 0, none⟩), .pointer (some ⟨wm.heap.size, 0, none⟩), .pointer (some ⟨wm.heap.size + 2, 0, none⟩)], .string (S x), undef, undef, undef, undef, undef, undef, undef, undef, undef, undef, undef, undef, undef, undef, undef, undef, undef, undef, undef, undef, undef, undef, undef, undef, undef, undef, undef, undef, undef, undef, undef, undef, undef, undef, undef, undef, undef, undef, undef, undef, undef, undef, undef, undef, undef, undef, undef, undef, undef, undef, undef, undef, undef, undef, undef, undef, undef], defers := [] }) ?assign ?body ?done ?stop
  case assign =>
    intro l x W K hK
    unfold encT
    gi_wp2
    exact hK
  case body =>
    rintro l' pre x W ⟨⟨h1, hbs⟩, b0, b1, next, out, u, hlc, hn3, hne, bo, bn, hown⟩ hG
    have hxm : x ∈ splitL (normL l) := by obtain ⟨r, hr⟩ := hG; rw [← hr]; simp
    have hxl : x.length ≤ 1000000 := by have := split_len (normL l) x hxm; rw [normL_length] at this; omega
    have hol := loopC_length pre 0 [] _ hlc
    have hpl : pre.length + 1 ≤ l.length + 1 := by
      have h1 := hG.length_le
      have h2 := split_count (normL l)
      rw [normL_length] at h2
      simp at h1
      omega
    have hol2 : out.length ≤ 1000000 := by simp at hol; omega
    have C23 := fun X b (h : allP isLow 2 3 x = b) => h ▸ all_letter 2 3 x hxl X
    have C44 := fun X b (h : allP isLow 4 4 x = b) => h ▸ all_letter 4 4 x hxl X
    have C22 := fun X b (h : allP isLow 2 2 x = b) => h ▸ all_letter 2 2 x hxl X
    have C33 := fun X b (h : allP isDig 3 3 x = b) => h ▸ all_digit 3 3 x hxl X
    have CV := fun X b (h : variantB x = b) => h ▸ tag_variant x hxl X
    have NX : ∀ X, Below W.heap.size W X → Boxed X (w1.heap.size + 1) 3 (.int .i64 (next : Int)) := fun X h => (h.block _ bn.lt).trans bn
    have OX : ∀ X, Below W.heap.size W X → Boxed X w1.heap.size 30 u := fun X h => (h.block _ bo.lt).trans bo
    have FIN := fun X n' t' (h : stepC next out x = some (n', t')) => canon_tail (Wa := X) (x := x) (n' := n') (t' := t') (by omega) (by omega) h1 hbs b0 b1 hlc bo bn hown h
    have RET := fun X (hs : stepC next out x = none) (h : Below W.heap.size W X) => canon_stop (Wa := X) (x := x) h1 b0 b1 hlc hs h
    have OWN := fun X (h : Below W.heap.size W X) (v : Value) (tmp : Obj) => canon_own (v := v) (tmp := tmp) (o := w1.heap.size) (by omega) hown h
    have R0X : ∀ X, Below W.heap.size W X → Boxed X w.heap.size 9 (.string (S [])) := fun X h => (h.block _ b0.lt).trans b0
    have R1X : ∀ X, Below W.heap.size W X → Boxed X (w.heap.size + 1) 26 (.int .i64 0) := fun X h => (h.block _ b1.lt).trans b1
    have HC := Lib.hid (fun (h : out ≠ []) X (hb : Below W.heap.size W X) => lib_contains (wm.heap.size + 3) u out x h hol2 W hown)
    have HBa := Lib.hid (Below.refl W.heap.size W)
    have cn := (NX _ HBa.out).cell
    have fn_ := (NX _ HBa.out).frozen
    have HC23 := Lib.hid C23
    have HC44 := Lib.hid C44
    have HC22 := Lib.hid C22
    have HC33 := Lib.hid C33
    have HCV := Lib.hid CV
    have HNX := Lib.hid NX
    have HOX := Lib.hid OX
    have HFIN := Lib.hid FIN
    have HRET := Lib.hid RET
    have HOWN := Lib.hid OWN
    have HR0X := Lib.hid R0X
    have HR1X := Lib.hid R1X
    have HNE := Lib.hid hne
    have HXL := Lib.hid hxl
    clear C23 C44 C22 C33 CV NX OX FIN RET OWN R0X R1X h1 b0 b1 hlc hne bo bn hown hG hxm hol hpl
    have hcase : next = 0 ∨ next = 1 ∨ next = 2 ∨ next = 3 := by omega
    clear hn3
    rcases hcase with h | h | h | h
    · have HN := Lib.hid h
      have hnn : (next : Int) = 0 := by omega
      rw [hnn] at cn
      clear h
      cases h23 : allP isLow 2 3 x with
      | true =>
        have H23 := Lib.hid h23
        clear h23
        gi_wp2_with fail
        repeat (refine skip_off ?_; gi_wp2_with fail; all_goals (try (rename_i hq hb; exact absurd (Option.some.inj hq) (undef_ne _))))
        refine ⟨trivial, fun h => absurd h (by decide), (callsIn_wide.2 (HC23.out W _ H23.out)).mono ?_⟩
        rintro e v1 ⟨rfl, hb⟩
        have HBv1 := Lib.hid (HBa.out.trans (hb.mono HBa.out.size))
        replace cn := (HNX.out _ HBv1.out).cell
        rw [hnn] at cn
        replace fn_ := (HNX.out _ HBv1.out).frozen
        clear hb
        have hst : stepC next out x = some (1, x) := by unfold stepC; simp [HN.out, H23.out]
        have co := (HOX.out _ HBv1.out).cell
        have co2 := fun v => ((HOX.out _ HBv1.out).other (B' := w1.heap.size + 1) (by omega) v).cell
        have HT := Lib.hid (HFIN.out v1 1 (x) hst HBv1.out)
        have HO := Lib.hid (fun v tmp => HOWN.out _ HBv1.out v tmp)
        have HBQ := Lib.hid (fun v => (HOX.out _ HBv1.out).other (B' := w1.heap.size + 1) (by omega) v)
        clear hst
        gi_wp2_with (gi_at_builtin; refine wpListIn_append_own _ rfl _ _ 30 rfl (wm.heap.size + 3) 9 i0 (.string ByteArray.empty) 1 16 Tryz.underlying30 hi hz0 hz1 hz2 rfl (by decide) _ _ _ rfl (HO.out _ _) ⟨_, 0, none⟩ 1 1 [.string (S (x))] rfl rfl (cell_one_set _ _ _ _ _) (by simp [Value.oneCell']) (by have : maxLen = 9223372036854775807 := rfl; omega) (by omega) (by have := HBv1.out.size; simp; omega) ?_; intro v' z1 hown' hgrow _; obtain ⟨g', cap', rfl⟩ := ownsRow_succ (by exact hown'); have hz1c := ((HBQ.out _).alloc _).kept hgrow (row_ne (HO.out (.int .i64 0) (.cells #[] 0)) (by omega)); have c9 := hz1c.cell; have f9 := hz1c.frozen; have HT2 := Lib.hid (HT.out _ _ _ hgrow hown'))
        exact HT2.out
      | false =>
        have H23 := Lib.hid h23
        clear h23
        gi_wp2_with fail
        repeat (refine skip_off ?_; gi_wp2_with fail; all_goals (try (rename_i hq hb; exact absurd (Option.some.inj hq) (undef_ne _))))
        refine ⟨trivial, fun h => absurd h (by decide), (callsIn_wide.2 (HC23.out W _ H23.out)).mono ?_⟩
        rintro e v2 ⟨rfl, hb⟩
        have HBv2 := Lib.hid (HBa.out.trans (hb.mono HBa.out.size))
        replace cn := (HNX.out _ HBv2.out).cell
        rw [hnn] at cn
        replace fn_ := (HNX.out _ HBv2.out).frozen
        clear hb
        have hst : stepC next out x = none := by unfold stepC; simp [HN.out, H23.out]
        have HR := Lib.hid (HRET.out v2 hst HBv2.out)
        have c0 := (HR0X.out _ HBv2.out).cell
        have f0 := (HR0X.out _ HBv2.out).frozen
        have c1 := fun v => ((HR1X.out _ HBv2.out).other (B' := w.heap.size) (by omega) v).cell
        have f1 := fun v => ((HR1X.out _ HBv2.out).other (B' := w.heap.size) (by omega) v).frozen
        clear hst
        gi_wp2_with fail
        repeat (refine skip_off ?_; gi_wp2_with fail; all_goals (try (rename_i hq hb; exact absurd (Option.some.inj hq) (undef_ne _))))
        exact HR.out
    · have HN := Lib.hid h
      have hnn : (next : Int) = 1 := by omega
      rw [hnn] at cn
      clear h
      cases h44 : allP isLow 4 4 x with
      | true =>
        have H44 := Lib.hid h44
        have hasc : ∀ b ∈ x.take 1, b.toNat < 128 := fun b hb => ascii_low h44 b (List.mem_of_mem_take hb)
        obtain ⟨hd, hhd⟩ : ∃ hd, (x.take 1).map Lib.upperB = hd := ⟨_, rfl⟩
        obtain ⟨tl, htl⟩ : ∃ tl, x.drop 1 = tl := ⟨_, rfl⟩
        have hx1 : (1 : Int) ≤ ((S x).size : Int) := by rw [S_size]; have := low_len h44; omega
        have he1 := S_take x 1
        have he2 : (S x).extract 1 (S x).size = S tl := by rw [S_size, ← htl]; exact S_drop x 1
        have hno2 : ¬ 9223372036854775807 < (S hd).size + (S tl).size := by have := HXL.out; rw [S_size, S_size, ← hhd, ← htl]; simp; omega
        have hcap : S hd ++ S tl = S (capU x) := by rw [← hhd, ← htl]; rfl
        have HUP := Lib.hid (fun X => hhd ▸ lib_upper (x.take 1) (by have := HXL.out; rw [List.length_take]; omega) hasc X)
        clear hhd htl
        clear h44 hasc
        gi_wp2_with fail
        repeat (refine skip_off ?_; gi_wp2_with fail; all_goals (try (rename_i hq hb; exact absurd (Option.some.inj hq) (undef_ne _))))
        refine ⟨trivial, fun h => absurd h (by decide), (callsIn_wide.2 (HC44.out W _ H44.out)).mono ?_⟩
        rintro e v3 ⟨rfl, hb⟩
        have HBv3 := Lib.hid (HBa.out.trans (hb.mono HBa.out.size))
        replace cn := (HNX.out _ HBv3.out).cell
        rw [hnn] at cn
        replace fn_ := (HNX.out _ HBv3.out).frozen
        clear hb
        gi_wp2_with fail
        repeat (refine skip_off ?_; gi_wp2_with fail; all_goals (try (rename_i hq hb; exact absurd (Option.some.inj hq) (undef_ne _))))
        refine wpIn_round_held (S := fun X => Below W.heap.size W X ∧ True) (by kernel_rfl) (fun ⟨_, _, h⟩ => h) (by kernel_rfl) ⟨HBv3.out.trans ((Below.refl _ _).drew.mono HBv3.out.size), trivial⟩ (fun hHeld => ?_)
        refine held_take (i := 0) (v := ?_) rfl (by kernel_rfl) (by kernel_rfl) (by kernel_rfl) (fun _ _ _ h => h) (by rfl) hHeld ?y13_0 ?_
        case y13_0 => (intro w hSw; (try dsimp only at hSw); go_simp; try with_reducible rfl)
        try simp only [Act.put, List.setIfInBounds_toArray, List.set_cons_zero, List.set_cons_succ]
        refine held_take (i := 1) (v := ?_) rfl (by kernel_rfl) (by kernel_rfl) (by kernel_rfl) (fun _ _ _ h => h) (by rfl) hHeld ?y13_1 ?_
        case y13_1 => (intro w hSw; (try dsimp only at hSw); go_simp; try with_reducible rfl)
        try simp only [Act.put, List.setIfInBounds_toArray, List.set_cons_zero, List.set_cons_succ]
        refine held_take (i := 3) (v := ?_) rfl (by kernel_rfl) (by kernel_rfl) (by kernel_rfl) (fun _ _ _ h => h) (by rfl) hHeld ?y13_3 ?_
        case y13_3 => (intro w hSw; (try dsimp only at hSw); go_simp; try with_reducible rfl)
        try simp only [Act.put, List.setIfInBounds_toArray, List.set_cons_zero, List.set_cons_succ]
        refine held_take (i := 4) (v := ?_) rfl (by kernel_rfl) (by kernel_rfl) (by kernel_rfl) (fun _ _ _ h => h) (by rfl) hHeld ?y13_4 ?_
        case y13_4 => (intro w hSw; (try dsimp only at hSw); go_simp; try with_reducible rfl)
        try simp only [Act.put, List.setIfInBounds_toArray, List.set_cons_zero, List.set_cons_succ]
        refine held_one (i := 2) (by kernel_rfl) rfl (fun K hK => ?_)
        (refine step_call (by rfl) _ _ (by rfl) Tryz.func48 (by kernel_rfl) (by kernel_rfl) (by simp only [List.map_toArray, List.map_cons, List.map_nil]; rfl) ((HUP.out _).mono ?_); rintro e y5 ⟨rfl, hb5⟩; have hS2 : Below W.heap.size W y5 ∧ True := ⟨hHeld.1.trans (hb5.mono hHeld.1.size), trivial⟩; refine ⟨_, rfl, ?_⟩)
        refine hK.out _ _ ?_ (fun hHeld => ?_)
        · exact hS2
        clear hK K
        try simp only [Act.put, List.setIfInBounds_toArray, List.set_cons_zero, List.set_cons_succ]
        refine held_take (i := 5) (v := ?_) rfl (by kernel_rfl) (by kernel_rfl) (by kernel_rfl) (fun _ _ _ h => h) (by rfl) hHeld ?y13_5 ?_
        case y13_5 => (intro w hSw; (try dsimp only at hSw); go_simp; try with_reducible rfl)
        try simp only [Act.put, List.setIfInBounds_toArray, List.set_cons_zero, List.set_cons_succ]
        refine held_take (i := 6) (v := ?_) rfl (by kernel_rfl) (by kernel_rfl) (by kernel_rfl) (fun _ _ _ h => h) (by rfl) hHeld ?y13_6 ?_
        case y13_6 => (intro w hSw; (try dsimp only at hSw); go_simp; try with_reducible rfl)
        try simp only [Act.put, List.setIfInBounds_toArray, List.set_cons_zero, List.set_cons_succ]
        refine wpAnyH_done (by kernel_rfl) ?_ _
        have HBq := Lib.hid hHeld.1
        have hst : stepC next out x = some (2, capU x) := by unfold stepC; simp [HN.out, H44.out]
        have co := (HOX.out _ HBq.out).cell
        have co2 := fun v => ((HOX.out _ HBq.out).other (B' := w1.heap.size + 1) (by omega) v).cell
        have HT := Lib.hid (HFIN.out _ 2 (capU x) hst HBq.out)
        have HO := Lib.hid (fun v tmp => HOWN.out _ HBq.out v tmp)
        have HBQ := Lib.hid (fun v => (HOX.out _ HBq.out).other (B' := w1.heap.size + 1) (by omega) v)
        clear hst
        replace cn := (HNX.out _ HBq.out).cell
        rw [hnn] at cn
        replace fn_ := (HNX.out _ HBq.out).frozen
        gi_wp2_with (gi_at_builtin; refine wpListIn_append_own _ rfl _ _ 30 rfl (wm.heap.size + 3) 9 i0 (.string ByteArray.empty) 1 16 Tryz.underlying30 hi hz0 hz1 hz2 rfl (by decide) _ _ _ rfl (HO.out _ _) ⟨_, 0, none⟩ 1 1 [.string (S (capU x))] rfl rfl (cell_one_set _ _ _ _ _) (by simp [Value.oneCell']) (by have : maxLen = 9223372036854775807 := rfl; omega) (by omega) (by have := HBq.out.size; simp; omega) ?_; intro v' z1 hown' hgrow _; obtain ⟨g', cap', rfl⟩ := ownsRow_succ (by exact hown'); have hz1c := ((HBQ.out _).alloc _).kept hgrow (row_ne (HO.out (.int .i64 0) (.cells #[] 0)) (by omega)); have c9 := hz1c.cell; have f9 := hz1c.frozen; have HT2 := Lib.hid (HT.out _ _ _ hgrow hown'))
        exact HT2.out
      | false =>
        have H44 := Lib.hid h44
        clear h44
        gi_wp2_with fail
        repeat (refine skip_off ?_; gi_wp2_with fail; all_goals (try (rename_i hq hb; exact absurd (Option.some.inj hq) (undef_ne _))))
        refine ⟨trivial, fun h => absurd h (by decide), (callsIn_wide.2 (HC44.out W _ H44.out)).mono ?_⟩
        rintro e v4 ⟨rfl, hb⟩
        have HBv4 := Lib.hid (HBa.out.trans (hb.mono HBa.out.size))
        replace cn := (HNX.out _ HBv4.out).cell
        rw [hnn] at cn
        replace fn_ := (HNX.out _ HBv4.out).frozen
        clear hb
        cases h22 : allP isLow 2 2 x with
        | true =>
          have H22 := Lib.hid h22
          have hasc : ∀ b ∈ x, b.toNat < 128 := ascii_low h22
          have HUP := Lib.hid (fun X => lib_upper x HXL.out hasc X)
          clear hasc
          clear h22
          gi_wp2_with fail
          repeat (refine skip_off ?_; gi_wp2_with fail; all_goals (try (rename_i hq hb; exact absurd (Option.some.inj hq) (undef_ne _))))
          refine ⟨trivial, fun h => absurd h (by decide), (callsIn_wide.2 (HC22.out v4 _ H22.out)).mono ?_⟩
          rintro e v5 ⟨rfl, hb⟩
          have HBv5 := Lib.hid (HBv4.out.trans (hb.mono HBv4.out.size))
          replace cn := (HNX.out _ HBv5.out).cell
          rw [hnn] at cn
          replace fn_ := (HNX.out _ HBv5.out).frozen
          clear hb
          gi_wp2_with fail
          repeat (refine skip_off ?_; gi_wp2_with fail; all_goals (try (rename_i hq hb; exact absurd (Option.some.inj hq) (undef_ne _))))
          refine ⟨trivial, fun h => absurd h (by decide), (callsIn_wide.2 (HUP.out v5)).mono ?_⟩
          rintro e v6 ⟨rfl, hb⟩
          have HBv6 := Lib.hid (HBv5.out.trans (hb.mono HBv5.out.size))
          replace cn := (HNX.out _ HBv6.out).cell
          rw [hnn] at cn
          replace fn_ := (HNX.out _ HBv6.out).frozen
          clear hb
          have hst : stepC next out x = some (3, x.map Lib.upperB) := by unfold stepC; simp [HN.out, H44.out, H22.out]
          have co := (HOX.out _ HBv6.out).cell
          have co2 := fun v => ((HOX.out _ HBv6.out).other (B' := w1.heap.size + 1) (by omega) v).cell
          have HT := Lib.hid (HFIN.out v6 3 (x.map Lib.upperB) hst HBv6.out)
          have HO := Lib.hid (fun v tmp => HOWN.out _ HBv6.out v tmp)
          have HBQ := Lib.hid (fun v => (HOX.out _ HBv6.out).other (B' := w1.heap.size + 1) (by omega) v)
          clear hst
          gi_wp2_with (gi_at_builtin; refine wpListIn_append_own _ rfl _ _ 30 rfl (wm.heap.size + 3) 9 i0 (.string ByteArray.empty) 1 16 Tryz.underlying30 hi hz0 hz1 hz2 rfl (by decide) _ _ _ rfl (HO.out _ _) ⟨_, 0, none⟩ 1 1 [.string (S (x.map Lib.upperB))] rfl rfl (cell_one_set _ _ _ _ _) (by simp [Value.oneCell']) (by have : maxLen = 9223372036854775807 := rfl; omega) (by omega) (by have := HBv6.out.size; simp; omega) ?_; intro v' z1 hown' hgrow _; obtain ⟨g', cap', rfl⟩ := ownsRow_succ (by exact hown'); have hz1c := ((HBQ.out _).alloc _).kept hgrow (row_ne (HO.out (.int .i64 0) (.cells #[] 0)) (by omega)); have c9 := hz1c.cell; have f9 := hz1c.frozen; have HT2 := Lib.hid (HT.out _ _ _ hgrow hown'))
          exact HT2.out
        | false =>
          have H22 := Lib.hid h22
          clear h22
          cases h33 : allP isDig 3 3 x with
          | true =>
            have H33 := Lib.hid h33
            have hasc : ∀ b ∈ x, b.toNat < 128 := ascii_dig h33
            have HUP := Lib.hid (fun X => lib_upper x HXL.out hasc X)
            clear hasc
            clear h33
            gi_wp2_with fail
            repeat (refine skip_off ?_; gi_wp2_with fail; all_goals (try (rename_i hq hb; exact absurd (Option.some.inj hq) (undef_ne _))))
            refine ⟨trivial, fun h => absurd h (by decide), (callsIn_wide.2 (HC22.out v4 _ H22.out)).mono ?_⟩
            rintro e v7 ⟨rfl, hb⟩
            have HBv7 := Lib.hid (HBv4.out.trans (hb.mono HBv4.out.size))
            replace cn := (HNX.out _ HBv7.out).cell
            rw [hnn] at cn
            replace fn_ := (HNX.out _ HBv7.out).frozen
            clear hb
            gi_wp2_with fail
            repeat (refine skip_off ?_; gi_wp2_with fail; all_goals (try (rename_i hq hb; exact absurd (Option.some.inj hq) (undef_ne _))))
            refine ⟨trivial, fun h => absurd h (by decide), (callsIn_wide.2 (HC33.out v7 _ H33.out)).mono ?_⟩
            rintro e v8 ⟨rfl, hb⟩
            have HBv8 := Lib.hid (HBv7.out.trans (hb.mono HBv7.out.size))
            replace cn := (HNX.out _ HBv8.out).cell
            rw [hnn] at cn
            replace fn_ := (HNX.out _ HBv8.out).frozen
            clear hb
            gi_wp2_with fail
            repeat (refine skip_off ?_; gi_wp2_with fail; all_goals (try (rename_i hq hb; exact absurd (Option.some.inj hq) (undef_ne _))))
            refine ⟨trivial, fun h => absurd h (by decide), (callsIn_wide.2 (HUP.out v8)).mono ?_⟩
            rintro e v9 ⟨rfl, hb⟩
            have HBv9 := Lib.hid (HBv8.out.trans (hb.mono HBv8.out.size))
            replace cn := (HNX.out _ HBv9.out).cell
            rw [hnn] at cn
            replace fn_ := (HNX.out _ HBv9.out).frozen
            clear hb
            have hst : stepC next out x = some (3, x.map Lib.upperB) := by unfold stepC; simp [HN.out, H44.out, H22.out, H33.out]
            have co := (HOX.out _ HBv9.out).cell
            have co2 := fun v => ((HOX.out _ HBv9.out).other (B' := w1.heap.size + 1) (by omega) v).cell
            have HT := Lib.hid (HFIN.out v9 3 (x.map Lib.upperB) hst HBv9.out)
            have HO := Lib.hid (fun v tmp => HOWN.out _ HBv9.out v tmp)
            have HBQ := Lib.hid (fun v => (HOX.out _ HBv9.out).other (B' := w1.heap.size + 1) (by omega) v)
            clear hst
            gi_wp2_with (gi_at_builtin; refine wpListIn_append_own _ rfl _ _ 30 rfl (wm.heap.size + 3) 9 i0 (.string ByteArray.empty) 1 16 Tryz.underlying30 hi hz0 hz1 hz2 rfl (by decide) _ _ _ rfl (HO.out _ _) ⟨_, 0, none⟩ 1 1 [.string (S (x.map Lib.upperB))] rfl rfl (cell_one_set _ _ _ _ _) (by simp [Value.oneCell']) (by have : maxLen = 9223372036854775807 := rfl; omega) (by omega) (by have := HBv9.out.size; simp; omega) ?_; intro v' z1 hown' hgrow _; obtain ⟨g', cap', rfl⟩ := ownsRow_succ (by exact hown'); have hz1c := ((HBQ.out _).alloc _).kept hgrow (row_ne (HO.out (.int .i64 0) (.cells #[] 0)) (by omega)); have c9 := hz1c.cell; have f9 := hz1c.frozen; have HT2 := Lib.hid (HT.out _ _ _ hgrow hown'))
            exact HT2.out
          | false =>
            have H33 := Lib.hid h33
            clear h33
            gi_wp2_with fail
            repeat (refine skip_off ?_; gi_wp2_with fail; all_goals (try (rename_i hq hb; exact absurd (Option.some.inj hq) (undef_ne _))))
            refine ⟨trivial, fun h => absurd h (by decide), (callsIn_wide.2 (HC22.out v4 _ H22.out)).mono ?_⟩
            rintro e v10 ⟨rfl, hb⟩
            have HBv10 := Lib.hid (HBv4.out.trans (hb.mono HBv4.out.size))
            replace cn := (HNX.out _ HBv10.out).cell
            rw [hnn] at cn
            replace fn_ := (HNX.out _ HBv10.out).frozen
            clear hb
            gi_wp2_with fail
            repeat (refine skip_off ?_; gi_wp2_with fail; all_goals (try (rename_i hq hb; exact absurd (Option.some.inj hq) (undef_ne _))))
            refine ⟨trivial, fun h => absurd h (by decide), (callsIn_wide.2 (HC33.out v10 _ H33.out)).mono ?_⟩
            rintro e v11 ⟨rfl, hb⟩
            have HBv11 := Lib.hid (HBv10.out.trans (hb.mono HBv10.out.size))
            replace cn := (HNX.out _ HBv11.out).cell
            rw [hnn] at cn
            replace fn_ := (HNX.out _ HBv11.out).frozen
            clear hb
            cases hv : variantB x with
            | false =>
              have Hv := Lib.hid hv
              clear hv
              gi_wp2_with fail
              repeat (refine skip_off ?_; gi_wp2_with fail; all_goals (try (rename_i hq hb; exact absurd (Option.some.inj hq) (undef_ne _))))
              refine ⟨trivial, fun h => absurd h (by decide), (callsIn_wide.2 (HCV.out v11 _ Hv.out)).mono ?_⟩
              rintro e v12 ⟨rfl, hb⟩
              have HBv12 := Lib.hid (HBv11.out.trans (hb.mono HBv11.out.size))
              replace cn := (HNX.out _ HBv12.out).cell
              rw [hnn] at cn
              replace fn_ := (HNX.out _ HBv12.out).frozen
              clear hb
              have hst : stepC next out x = none := by unfold stepC; simp [HN.out, H44.out, H22.out, H33.out, Hv.out]
              have HR := Lib.hid (HRET.out v12 hst HBv12.out)
              have c0 := (HR0X.out _ HBv12.out).cell
              have f0 := (HR0X.out _ HBv12.out).frozen
              have c1 := fun v => ((HR1X.out _ HBv12.out).other (B' := w.heap.size) (by omega) v).cell
              have f1 := fun v => ((HR1X.out _ HBv12.out).other (B' := w.heap.size) (by omega) v).frozen
              clear hst
              gi_wp2_with fail
              repeat (refine skip_off ?_; gi_wp2_with fail; all_goals (try (rename_i hq hb; exact absurd (Option.some.inj hq) (undef_ne _))))
              exact HR.out
            | true =>
              have Hv := Lib.hid hv
              clear hv
              have hne0 := HNE.out (by omega)
              cases hcc : (out.drop 1).contains x with
              | true =>
                have Hcc := Lib.hid hcc
                clear hcc
                obtain ⟨g0, cap0, A0, hu0, hsl, hcon⟩ := HC.out hne0 W HBa.out
                rw [Hcc.out] at hcon
                have HCON := Lib.hid hcon
                clear hcon hu0
                gi_wp2_with fail
                repeat (refine skip_off ?_; gi_wp2_with fail; all_goals (try (rename_i hq hb; exact absurd (Option.some.inj hq) (undef_ne _))))
                refine ⟨trivial, fun h => absurd h (by decide), (callsIn_wide.2 (HCV.out v11 _ Hv.out)).mono ?_⟩
                rintro e v14 ⟨rfl, hb⟩
                have HBv14 := Lib.hid (HBv11.out.trans (hb.mono HBv11.out.size))
                replace cn := (HNX.out _ HBv14.out).cell
                rw [hnn] at cn
                replace fn_ := (HNX.out _ HBv14.out).frozen
                clear hb
                have co := (HOX.out _ HBv14.out).cell
                gi_wp2_with fail
                repeat (refine skip_off ?_; gi_wp2_with fail; all_goals (try (rename_i hq hb; exact absurd (Option.some.inj hq) (undef_ne _))))
                refine ⟨trivial, fun h => absurd h (by decide), (callsIn_wide.2 (HCON.out _ HBv14.out)).mono ?_⟩
                rintro e v15 ⟨rfl, rfl⟩
                have hst : stepC next out x = none := by unfold stepC; simp [HN.out, H44.out, H22.out, H33.out, Hv.out]; simpa using Hcc.out
                have HR := Lib.hid (HRET.out _ hst HBv14.out)
                have c0 := (HR0X.out _ HBv14.out).cell
                have f0 := (HR0X.out _ HBv14.out).frozen
                have c1 := fun v => ((HR1X.out _ HBv14.out).other (B' := w.heap.size) (by omega) v).cell
                have f1 := fun v => ((HR1X.out _ HBv14.out).other (B' := w.heap.size) (by omega) v).frozen
                clear hst
                gi_wp2_with fail
                repeat (refine skip_off ?_; gi_wp2_with fail; all_goals (try (rename_i hq hb; exact absurd (Option.some.inj hq) (undef_ne _))))
                exact HR.out
              | false =>
                have Hcc := Lib.hid hcc
                clear hcc
                obtain ⟨g0, cap0, A0, hu0, hsl, hcon⟩ := HC.out hne0 W HBa.out
                rw [Hcc.out] at hcon
                have HCON := Lib.hid hcon
                clear hcon hu0
                gi_wp2_with fail
                repeat (refine skip_off ?_; gi_wp2_with fail; all_goals (try (rename_i hq hb; exact absurd (Option.some.inj hq) (undef_ne _))))
                refine ⟨trivial, fun h => absurd h (by decide), (callsIn_wide.2 (HCV.out v11 _ Hv.out)).mono ?_⟩
                rintro e v16 ⟨rfl, hb⟩
                have HBv16 := Lib.hid (HBv11.out.trans (hb.mono HBv11.out.size))
                replace cn := (HNX.out _ HBv16.out).cell
                rw [hnn] at cn
                replace fn_ := (HNX.out _ HBv16.out).frozen
                clear hb
                have co := (HOX.out _ HBv16.out).cell
                gi_wp2_with fail
                repeat (refine skip_off ?_; gi_wp2_with fail; all_goals (try (rename_i hq hb; exact absurd (Option.some.inj hq) (undef_ne _))))
                refine ⟨trivial, fun h => absurd h (by decide), (callsIn_wide.2 (HCON.out _ HBv16.out)).mono ?_⟩
                rintro e v17 ⟨rfl, rfl⟩
                have hst : stepC next out x = some (3, x) := by unfold stepC; simp [HN.out, H44.out, H22.out, H33.out, Hv.out]; simpa using Hcc.out
                have co := (HOX.out _ HBv16.out).cell
                have co2 := fun v => ((HOX.out _ HBv16.out).other (B' := w1.heap.size + 1) (by omega) v).cell
                have HT := Lib.hid (HFIN.out _ 3 (x) hst HBv16.out)
                have HO := Lib.hid (fun v tmp => HOWN.out _ HBv16.out v tmp)
                have HBQ := Lib.hid (fun v => (HOX.out _ HBv16.out).other (B' := w1.heap.size + 1) (by omega) v)
                clear hst
                gi_wp2_with (gi_at_builtin; refine wpListIn_append_own _ rfl _ _ 30 rfl (wm.heap.size + 3) 9 i0 (.string ByteArray.empty) 1 16 Tryz.underlying30 hi hz0 hz1 hz2 rfl (by decide) _ _ _ rfl (HO.out _ _) ⟨_, 0, none⟩ 1 1 [.string (S (x))] rfl rfl (cell_one_set _ _ _ _ _) (by simp [Value.oneCell']) (by have : maxLen = 9223372036854775807 := rfl; omega) (by omega) (by have := HBv16.out.size; simp; omega) ?_; intro v' z1 hown' hgrow _; obtain ⟨g', cap', rfl⟩ := ownsRow_succ (by exact hown'); have hz1c := ((HBQ.out _).alloc _).kept hgrow (row_ne (HO.out (.int .i64 0) (.cells #[] 0)) (by omega)); have c9 := hz1c.cell; have f9 := hz1c.frozen; have HT2 := Lib.hid (HT.out _ _ _ hgrow hown'))
                exact HT2.out
    · have HN := Lib.hid h
      have hnn : (next : Int) = 2 := by omega
      rw [hnn] at cn
      clear h
      cases h22 : allP isLow 2 2 x with
      | true =>
        have H22 := Lib.hid h22
        have hasc : ∀ b ∈ x, b.toNat < 128 := ascii_low h22
        have HUP := Lib.hid (fun X => lib_upper x HXL.out hasc X)
        clear hasc
        clear h22
        gi_wp2_with fail
        repeat (refine skip_off ?_; gi_wp2_with fail; all_goals (try (rename_i hq hb; exact absurd (Option.some.inj hq) (undef_ne _))))
        refine ⟨trivial, fun h => absurd h (by decide), (callsIn_wide.2 (HC22.out W _ H22.out)).mono ?_⟩
        rintro e v18 ⟨rfl, hb⟩
        have HBv18 := Lib.hid (HBa.out.trans (hb.mono HBa.out.size))
        replace cn := (HNX.out _ HBv18.out).cell
        rw [hnn] at cn
        replace fn_ := (HNX.out _ HBv18.out).frozen
        clear hb
        gi_wp2_with fail
        repeat (refine skip_off ?_; gi_wp2_with fail; all_goals (try (rename_i hq hb; exact absurd (Option.some.inj hq) (undef_ne _))))
        refine ⟨trivial, fun h => absurd h (by decide), (callsIn_wide.2 (HUP.out v18)).mono ?_⟩
        rintro e v19 ⟨rfl, hb⟩
        have HBv19 := Lib.hid (HBv18.out.trans (hb.mono HBv18.out.size))
        replace cn := (HNX.out _ HBv19.out).cell
        rw [hnn] at cn
        replace fn_ := (HNX.out _ HBv19.out).frozen
        clear hb
        have hst : stepC next out x = some (3, x.map Lib.upperB) := by unfold stepC; simp [HN.out, H22.out]
        have co := (HOX.out _ HBv19.out).cell
        have co2 := fun v => ((HOX.out _ HBv19.out).other (B' := w1.heap.size + 1) (by omega) v).cell
        have HT := Lib.hid (HFIN.out v19 3 (x.map Lib.upperB) hst HBv19.out)
        have HO := Lib.hid (fun v tmp => HOWN.out _ HBv19.out v tmp)
        have HBQ := Lib.hid (fun v => (HOX.out _ HBv19.out).other (B' := w1.heap.size + 1) (by omega) v)
        clear hst
        gi_wp2_with (gi_at_builtin; refine wpListIn_append_own _ rfl _ _ 30 rfl (wm.heap.size + 3) 9 i0 (.string ByteArray.empty) 1 16 Tryz.underlying30 hi hz0 hz1 hz2 rfl (by decide) _ _ _ rfl (HO.out _ _) ⟨_, 0, none⟩ 1 1 [.string (S (x.map Lib.upperB))] rfl rfl (cell_one_set _ _ _ _ _) (by simp [Value.oneCell']) (by have : maxLen = 9223372036854775807 := rfl; omega) (by omega) (by have := HBv19.out.size; simp; omega) ?_; intro v' z1 hown' hgrow _; obtain ⟨g', cap', rfl⟩ := ownsRow_succ (by exact hown'); have hz1c := ((HBQ.out _).alloc _).kept hgrow (row_ne (HO.out (.int .i64 0) (.cells #[] 0)) (by omega)); have c9 := hz1c.cell; have f9 := hz1c.frozen; have HT2 := Lib.hid (HT.out _ _ _ hgrow hown'))
        exact HT2.out
      | false =>
        have H22 := Lib.hid h22
        clear h22
        cases h33 : allP isDig 3 3 x with
        | true =>
          have H33 := Lib.hid h33
          have hasc : ∀ b ∈ x, b.toNat < 128 := ascii_dig h33
          have HUP := Lib.hid (fun X => lib_upper x HXL.out hasc X)
          clear hasc
          clear h33
          gi_wp2_with fail
          repeat (refine skip_off ?_; gi_wp2_with fail; all_goals (try (rename_i hq hb; exact absurd (Option.some.inj hq) (undef_ne _))))
          refine ⟨trivial, fun h => absurd h (by decide), (callsIn_wide.2 (HC22.out W _ H22.out)).mono ?_⟩
          rintro e v20 ⟨rfl, hb⟩
          have HBv20 := Lib.hid (HBa.out.trans (hb.mono HBa.out.size))
          replace cn := (HNX.out _ HBv20.out).cell
          rw [hnn] at cn
          replace fn_ := (HNX.out _ HBv20.out).frozen
          clear hb
          gi_wp2_with fail
          repeat (refine skip_off ?_; gi_wp2_with fail; all_goals (try (rename_i hq hb; exact absurd (Option.some.inj hq) (undef_ne _))))
          refine ⟨trivial, fun h => absurd h (by decide), (callsIn_wide.2 (HC33.out v20 _ H33.out)).mono ?_⟩
          rintro e v21 ⟨rfl, hb⟩
          have HBv21 := Lib.hid (HBv20.out.trans (hb.mono HBv20.out.size))
          replace cn := (HNX.out _ HBv21.out).cell
          rw [hnn] at cn
          replace fn_ := (HNX.out _ HBv21.out).frozen
          clear hb
          gi_wp2_with fail
          repeat (refine skip_off ?_; gi_wp2_with fail; all_goals (try (rename_i hq hb; exact absurd (Option.some.inj hq) (undef_ne _))))
          refine ⟨trivial, fun h => absurd h (by decide), (callsIn_wide.2 (HUP.out v21)).mono ?_⟩
          rintro e v22 ⟨rfl, hb⟩
          have HBv22 := Lib.hid (HBv21.out.trans (hb.mono HBv21.out.size))
          replace cn := (HNX.out _ HBv22.out).cell
          rw [hnn] at cn
          replace fn_ := (HNX.out _ HBv22.out).frozen
          clear hb
          have hst : stepC next out x = some (3, x.map Lib.upperB) := by unfold stepC; simp [HN.out, H22.out, H33.out]
          have co := (HOX.out _ HBv22.out).cell
          have co2 := fun v => ((HOX.out _ HBv22.out).other (B' := w1.heap.size + 1) (by omega) v).cell
          have HT := Lib.hid (HFIN.out v22 3 (x.map Lib.upperB) hst HBv22.out)
          have HO := Lib.hid (fun v tmp => HOWN.out _ HBv22.out v tmp)
          have HBQ := Lib.hid (fun v => (HOX.out _ HBv22.out).other (B' := w1.heap.size + 1) (by omega) v)
          clear hst
          gi_wp2_with (gi_at_builtin; refine wpListIn_append_own _ rfl _ _ 30 rfl (wm.heap.size + 3) 9 i0 (.string ByteArray.empty) 1 16 Tryz.underlying30 hi hz0 hz1 hz2 rfl (by decide) _ _ _ rfl (HO.out _ _) ⟨_, 0, none⟩ 1 1 [.string (S (x.map Lib.upperB))] rfl rfl (cell_one_set _ _ _ _ _) (by simp [Value.oneCell']) (by have : maxLen = 9223372036854775807 := rfl; omega) (by omega) (by have := HBv22.out.size; simp; omega) ?_; intro v' z1 hown' hgrow _; obtain ⟨g', cap', rfl⟩ := ownsRow_succ (by exact hown'); have hz1c := ((HBQ.out _).alloc _).kept hgrow (row_ne (HO.out (.int .i64 0) (.cells #[] 0)) (by omega)); have c9 := hz1c.cell; have f9 := hz1c.frozen; have HT2 := Lib.hid (HT.out _ _ _ hgrow hown'))
          exact HT2.out
        | false =>
          have H33 := Lib.hid h33
          clear h33
          gi_wp2_with fail
          repeat (refine skip_off ?_; gi_wp2_with fail; all_goals (try (rename_i hq hb; exact absurd (Option.some.inj hq) (undef_ne _))))
          refine ⟨trivial, fun h => absurd h (by decide), (callsIn_wide.2 (HC22.out W _ H22.out)).mono ?_⟩
          rintro e v23 ⟨rfl, hb⟩
          have HBv23 := Lib.hid (HBa.out.trans (hb.mono HBa.out.size))
          replace cn := (HNX.out _ HBv23.out).cell
          rw [hnn] at cn
          replace fn_ := (HNX.out _ HBv23.out).frozen
          clear hb
          gi_wp2_with fail
          repeat (refine skip_off ?_; gi_wp2_with fail; all_goals (try (rename_i hq hb; exact absurd (Option.some.inj hq) (undef_ne _))))
          refine ⟨trivial, fun h => absurd h (by decide), (callsIn_wide.2 (HC33.out v23 _ H33.out)).mono ?_⟩
          rintro e v24 ⟨rfl, hb⟩
          have HBv24 := Lib.hid (HBv23.out.trans (hb.mono HBv23.out.size))
          replace cn := (HNX.out _ HBv24.out).cell
          rw [hnn] at cn
          replace fn_ := (HNX.out _ HBv24.out).frozen
          clear hb
          cases hv : variantB x with
          | false =>
            have Hv := Lib.hid hv
            clear hv
            gi_wp2_with fail
            repeat (refine skip_off ?_; gi_wp2_with fail; all_goals (try (rename_i hq hb; exact absurd (Option.some.inj hq) (undef_ne _))))
            refine ⟨trivial, fun h => absurd h (by decide), (callsIn_wide.2 (HCV.out v24 _ Hv.out)).mono ?_⟩
            rintro e v25 ⟨rfl, hb⟩
            have HBv25 := Lib.hid (HBv24.out.trans (hb.mono HBv24.out.size))
            replace cn := (HNX.out _ HBv25.out).cell
            rw [hnn] at cn
            replace fn_ := (HNX.out _ HBv25.out).frozen
            clear hb
            have hst : stepC next out x = none := by unfold stepC; simp [HN.out, H22.out, H33.out, Hv.out]
            have HR := Lib.hid (HRET.out v25 hst HBv25.out)
            have c0 := (HR0X.out _ HBv25.out).cell
            have f0 := (HR0X.out _ HBv25.out).frozen
            have c1 := fun v => ((HR1X.out _ HBv25.out).other (B' := w.heap.size) (by omega) v).cell
            have f1 := fun v => ((HR1X.out _ HBv25.out).other (B' := w.heap.size) (by omega) v).frozen
            clear hst
            gi_wp2_with fail
            repeat (refine skip_off ?_; gi_wp2_with fail; all_goals (try (rename_i hq hb; exact absurd (Option.some.inj hq) (undef_ne _))))
            exact HR.out
          | true =>
            have Hv := Lib.hid hv
            clear hv
            have hne0 := HNE.out (by omega)
            cases hcc : (out.drop 1).contains x with
            | true =>
              have Hcc := Lib.hid hcc
              clear hcc
              obtain ⟨g0, cap0, A0, hu0, hsl, hcon⟩ := HC.out hne0 W HBa.out
              rw [Hcc.out] at hcon
              have HCON := Lib.hid hcon
              clear hcon hu0
              gi_wp2_with fail
              repeat (refine skip_off ?_; gi_wp2_with fail; all_goals (try (rename_i hq hb; exact absurd (Option.some.inj hq) (undef_ne _))))
              refine ⟨trivial, fun h => absurd h (by decide), (callsIn_wide.2 (HCV.out v24 _ Hv.out)).mono ?_⟩
              rintro e v27 ⟨rfl, hb⟩
              have HBv27 := Lib.hid (HBv24.out.trans (hb.mono HBv24.out.size))
              replace cn := (HNX.out _ HBv27.out).cell
              rw [hnn] at cn
              replace fn_ := (HNX.out _ HBv27.out).frozen
              clear hb
              have co := (HOX.out _ HBv27.out).cell
              gi_wp2_with fail
              repeat (refine skip_off ?_; gi_wp2_with fail; all_goals (try (rename_i hq hb; exact absurd (Option.some.inj hq) (undef_ne _))))
              refine ⟨trivial, fun h => absurd h (by decide), (callsIn_wide.2 (HCON.out _ HBv27.out)).mono ?_⟩
              rintro e v28 ⟨rfl, rfl⟩
              have hst : stepC next out x = none := by unfold stepC; simp [HN.out, H22.out, H33.out, Hv.out]; simpa using Hcc.out
              have HR := Lib.hid (HRET.out _ hst HBv27.out)
              have c0 := (HR0X.out _ HBv27.out).cell
              have f0 := (HR0X.out _ HBv27.out).frozen
              have c1 := fun v => ((HR1X.out _ HBv27.out).other (B' := w.heap.size) (by omega) v).cell
              have f1 := fun v => ((HR1X.out _ HBv27.out).other (B' := w.heap.size) (by omega) v).frozen
              clear hst
              gi_wp2_with fail
              repeat (refine skip_off ?_; gi_wp2_with fail; all_goals (try (rename_i hq hb; exact absurd (Option.some.inj hq) (undef_ne _))))
              exact HR.out
            | false =>
              have Hcc := Lib.hid hcc
              clear hcc
              obtain ⟨g0, cap0, A0, hu0, hsl, hcon⟩ := HC.out hne0 W HBa.out
              rw [Hcc.out] at hcon
              have HCON := Lib.hid hcon
              clear hcon hu0
              gi_wp2_with fail
              repeat (refine skip_off ?_; gi_wp2_with fail; all_goals (try (rename_i hq hb; exact absurd (Option.some.inj hq) (undef_ne _))))
              refine ⟨trivial, fun h => absurd h (by decide), (callsIn_wide.2 (HCV.out v24 _ Hv.out)).mono ?_⟩
              rintro e v29 ⟨rfl, hb⟩
              have HBv29 := Lib.hid (HBv24.out.trans (hb.mono HBv24.out.size))
              replace cn := (HNX.out _ HBv29.out).cell
              rw [hnn] at cn
              replace fn_ := (HNX.out _ HBv29.out).frozen
              clear hb
              have co := (HOX.out _ HBv29.out).cell
              gi_wp2_with fail
              repeat (refine skip_off ?_; gi_wp2_with fail; all_goals (try (rename_i hq hb; exact absurd (Option.some.inj hq) (undef_ne _))))
              refine ⟨trivial, fun h => absurd h (by decide), (callsIn_wide.2 (HCON.out _ HBv29.out)).mono ?_⟩
              rintro e v30 ⟨rfl, rfl⟩
              have hst : stepC next out x = some (3, x) := by unfold stepC; simp [HN.out, H22.out, H33.out, Hv.out]; simpa using Hcc.out
              have co := (HOX.out _ HBv29.out).cell
              have co2 := fun v => ((HOX.out _ HBv29.out).other (B' := w1.heap.size + 1) (by omega) v).cell
              have HT := Lib.hid (HFIN.out _ 3 (x) hst HBv29.out)
              have HO := Lib.hid (fun v tmp => HOWN.out _ HBv29.out v tmp)
              have HBQ := Lib.hid (fun v => (HOX.out _ HBv29.out).other (B' := w1.heap.size + 1) (by omega) v)
              clear hst
              gi_wp2_with (gi_at_builtin; refine wpListIn_append_own _ rfl _ _ 30 rfl (wm.heap.size + 3) 9 i0 (.string ByteArray.empty) 1 16 Tryz.underlying30 hi hz0 hz1 hz2 rfl (by decide) _ _ _ rfl (HO.out _ _) ⟨_, 0, none⟩ 1 1 [.string (S (x))] rfl rfl (cell_one_set _ _ _ _ _) (by simp [Value.oneCell']) (by have : maxLen = 9223372036854775807 := rfl; omega) (by omega) (by have := HBv29.out.size; simp; omega) ?_; intro v' z1 hown' hgrow _; obtain ⟨g', cap', rfl⟩ := ownsRow_succ (by exact hown'); have hz1c := ((HBQ.out _).alloc _).kept hgrow (row_ne (HO.out (.int .i64 0) (.cells #[] 0)) (by omega)); have c9 := hz1c.cell; have f9 := hz1c.frozen; have HT2 := Lib.hid (HT.out _ _ _ hgrow hown'))
              exact HT2.out
    · have HN := Lib.hid h
      have hnn : (next : Int) = 3 := by omega
      rw [hnn] at cn
      clear h
      cases hv : variantB x with
      | false =>
        have Hv := Lib.hid hv
        clear hv
        gi_wp2_with fail
        repeat (refine skip_off ?_; gi_wp2_with fail; all_goals (try (rename_i hq hb; exact absurd (Option.some.inj hq) (undef_ne _))))
        refine ⟨trivial, fun h => absurd h (by decide), (callsIn_wide.2 (HCV.out W _ Hv.out)).mono ?_⟩
        rintro e v31 ⟨rfl, hb⟩
        have HBv31 := Lib.hid (HBa.out.trans (hb.mono HBa.out.size))
        replace cn := (HNX.out _ HBv31.out).cell
        rw [hnn] at cn
        replace fn_ := (HNX.out _ HBv31.out).frozen
        clear hb
        have hst : stepC next out x = none := by unfold stepC; simp [HN.out, Hv.out]
        have HR := Lib.hid (HRET.out v31 hst HBv31.out)
        have c0 := (HR0X.out _ HBv31.out).cell
        have f0 := (HR0X.out _ HBv31.out).frozen
        have c1 := fun v => ((HR1X.out _ HBv31.out).other (B' := w.heap.size) (by omega) v).cell
        have f1 := fun v => ((HR1X.out _ HBv31.out).other (B' := w.heap.size) (by omega) v).frozen
        clear hst
        gi_wp2_with fail
        repeat (refine skip_off ?_; gi_wp2_with fail; all_goals (try (rename_i hq hb; exact absurd (Option.some.inj hq) (undef_ne _))))
        exact HR.out
      | true =>
        have Hv := Lib.hid hv
        clear hv
        have hne0 := HNE.out (by omega)
        cases hcc : (out.drop 1).contains x with
        | true =>
          have Hcc := Lib.hid hcc
          clear hcc
          obtain ⟨g0, cap0, A0, hu0, hsl, hcon⟩ := HC.out hne0 W HBa.out
          rw [Hcc.out] at hcon
          have HCON := Lib.hid hcon
          clear hcon hu0
          gi_wp2_with fail
          repeat (refine skip_off ?_; gi_wp2_with fail; all_goals (try (rename_i hq hb; exact absurd (Option.some.inj hq) (undef_ne _))))
          refine ⟨trivial, fun h => absurd h (by decide), (callsIn_wide.2 (HCV.out W _ Hv.out)).mono ?_⟩
          rintro e v33 ⟨rfl, hb⟩
          have HBv33 := Lib.hid (HBa.out.trans (hb.mono HBa.out.size))
          replace cn := (HNX.out _ HBv33.out).cell
          rw [hnn] at cn
          replace fn_ := (HNX.out _ HBv33.out).frozen
          clear hb
          have co := (HOX.out _ HBv33.out).cell
          gi_wp2_with fail
          repeat (refine skip_off ?_; gi_wp2_with fail; all_goals (try (rename_i hq hb; exact absurd (Option.some.inj hq) (undef_ne _))))
          refine ⟨trivial, fun h => absurd h (by decide), (callsIn_wide.2 (HCON.out _ HBv33.out)).mono ?_⟩
          rintro e v34 ⟨rfl, rfl⟩
          have hst : stepC next out x = none := by unfold stepC; simp [HN.out, Hv.out]; simpa using Hcc.out
          have HR := Lib.hid (HRET.out _ hst HBv33.out)
          have c0 := (HR0X.out _ HBv33.out).cell
          have f0 := (HR0X.out _ HBv33.out).frozen
          have c1 := fun v => ((HR1X.out _ HBv33.out).other (B' := w.heap.size) (by omega) v).cell
          have f1 := fun v => ((HR1X.out _ HBv33.out).other (B' := w.heap.size) (by omega) v).frozen
          clear hst
          gi_wp2_with fail
          repeat (refine skip_off ?_; gi_wp2_with fail; all_goals (try (rename_i hq hb; exact absurd (Option.some.inj hq) (undef_ne _))))
          exact HR.out
        | false =>
          have Hcc := Lib.hid hcc
          clear hcc
          obtain ⟨g0, cap0, A0, hu0, hsl, hcon⟩ := HC.out hne0 W HBa.out
          rw [Hcc.out] at hcon
          have HCON := Lib.hid hcon
          clear hcon hu0
          gi_wp2_with fail
          repeat (refine skip_off ?_; gi_wp2_with fail; all_goals (try (rename_i hq hb; exact absurd (Option.some.inj hq) (undef_ne _))))
          refine ⟨trivial, fun h => absurd h (by decide), (callsIn_wide.2 (HCV.out W _ Hv.out)).mono ?_⟩
          rintro e v35 ⟨rfl, hb⟩
          have HBv35 := Lib.hid (HBa.out.trans (hb.mono HBa.out.size))
          replace cn := (HNX.out _ HBv35.out).cell
          rw [hnn] at cn
          replace fn_ := (HNX.out _ HBv35.out).frozen
          clear hb
          have co := (HOX.out _ HBv35.out).cell
          gi_wp2_with fail
          repeat (refine skip_off ?_; gi_wp2_with fail; all_goals (try (rename_i hq hb; exact absurd (Option.some.inj hq) (undef_ne _))))
          refine ⟨trivial, fun h => absurd h (by decide), (callsIn_wide.2 (HCON.out _ HBv35.out)).mono ?_⟩
          rintro e v36 ⟨rfl, rfl⟩
          have hst : stepC next out x = some (3, x) := by unfold stepC; simp [HN.out, Hv.out]; simpa using Hcc.out
          have co := (HOX.out _ HBv35.out).cell
          have co2 := fun v => ((HOX.out _ HBv35.out).other (B' := w1.heap.size + 1) (by omega) v).cell
          have HT := Lib.hid (HFIN.out _ 3 (x) hst HBv35.out)
          have HO := Lib.hid (fun v tmp => HOWN.out _ HBv35.out v tmp)
          have HBQ := Lib.hid (fun v => (HOX.out _ HBv35.out).other (B' := w1.heap.size + 1) (by omega) v)
          clear hst
          gi_wp2_with (gi_at_builtin; refine wpListIn_append_own _ rfl _ _ 30 rfl (wm.heap.size + 3) 9 i0 (.string ByteArray.empty) 1 16 Tryz.underlying30 hi hz0 hz1 hz2 rfl (by decide) _ _ _ rfl (HO.out _ _) ⟨_, 0, none⟩ 1 1 [.string (S (x))] rfl rfl (cell_one_set _ _ _ _ _) (by simp [Value.oneCell']) (by have : maxLen = 9223372036854775807 := rfl; omega) (by omega) (by have := HBv35.out.size; simp; omega) ?_; intro v' z1 hown' hgrow _; obtain ⟨g', cap', rfl⟩ := ownsRow_succ (by exact hown'); have hz1c := ((HBQ.out _).alloc _).kept hgrow (row_ne (HO.out (.int .i64 0) (.cells #[] 0)) (by omega)); have c9 := hz1c.cell; have f9 := hz1c.frozen; have HT2 := Lib.hid (HT.out _ _ _ hgrow hown'))
          exact HT2.out
  case done =>
    rintro D xs W hD rfl ⟨⟨h1, hbs⟩, b0, b1, next, out, u, hlc, hn3, hne, bo, bn, hown⟩ hK
    have hlen := loopC_length _ 0 [] _ hlc
    have hone : out ≠ [] := fun e => by
      have := List.length_pos_iff.2 (splitL_ne (normL l))
      rw [e] at hlen
      simp at hlen
      omega
    have hcnt : out.length ≤ 1000000 := by
      have := split_count (normL l)
      rw [normL_length] at this
      simp at hlen
      omega
    have hjl : (joinL out).length ≤ 1000000 := by
      rw [joinL_len (loopC_lens _ 0 [] _ hlc), List.nil_append, joinL_split, normL_length]
      exact hl
    have co := bo.cell
    have HJ := Lib.hid (lib_join (wm.heap.size + 3) u out hone hcnt hjl W hown)
    have HLC := Lib.hid hlc
    have HW1 := Lib.hid h1
    have HX0 := Lib.hid b0
    have HX1 := Lib.hid b1
    have HK := Lib.hid hK
    clear h1 b0 b1 hlc hn3 hne bo bn hown hK hlen hone hcnt hjl
    gi_wp2_with fail
    refine ⟨trivial, fun h => absurd h (by decide), (callsIn_wide.2 HJ.out).mono ?_⟩
    rintro e v ⟨rfl, hb⟩
    have d0 : Boxed v w.heap.size 9 (.string (S [])) := (hb.block _ HX0.out.lt).trans HX0.out
    have d1 : Boxed v (w.heap.size + 1) 26 (.int .i64 0) := (hb.block _ HX1.out.lt).trans HX1.out
    have hKv : v.heap[D]? = some (.deferred (some [])) := (hb.block D (Array.getElem?_eq_some_iff.1 HK.out).1).trans HK.out
    obtain ⟨s0, s1⟩ := set_two d0 d1 (.string (S (joinL out))) (.int .i64 0)
    have hBB := below_two (HW1.out.trans (hb.mono HW1.out.size)) (Nat.le_refl w.heap.size) (.string (S (joinL out))) (.int .i64 0)
    have hK2 : ((v.setCell ⟨w.heap.size, 0, none⟩ (.string (S (joinL out)))).setCell ⟨w.heap.size + 1, 0, none⟩ (.int .i64 0)).heap[D]? = some (.deferred (some [])) :=
      (Below.heap_setCell _ ⟨w.heap.size + 1, 0, none⟩ _ D (by show D ≠ w.heap.size + 1; omega)).trans ((Below.heap_setCell _ ⟨w.heap.size, 0, none⟩ _ D (by show D ≠ w.heap.size; omega)).trans hKv)
    have c0 := d0.cell
    have f0 := d0.frozen
    have c1 := fun v => (d1.other (B' := w.heap.size) (by omega) v).cell
    have f1 := fun v => (d1.other (B' := w.heap.size) (by omega) v).frozen
    have S0 := Lib.hid s0
    have S1 := Lib.hid s1
    have HBB := Lib.hid hBB
    have HK2 := Lib.hid hK2
    clear hb d0 d1 hKv s0 s1 hBB hK2
    gi_wp2_with fail
    refine ⟨by simp, .inl ⟨_, _, rfl, run_takeDeferred HK2.out, ?_⟩⟩
    exact ⟨.tuple #[.string (S (joinL out)), .int .i64 0], canon_results _ w.heap.size rfl rfl _ _ _ (Boxed.cell ((World.putObj_heap_other (by omega)).trans S0.out)) (Boxed.cell ((World.putObj_heap_other (by omega)).trans S1.out)),
      by rw [HLC.out]; rfl, HBB.out.trans (belowK_b (w := w) (Nat.le_refl _) _ D _ _ (by omega) HK2.out rfl rfl)⟩
  case stop =>
    rintro D c pre W hD hpre ⟨rfl, h1, b0, b1, hno⟩ hK
    have hn := loopC_none hpre hno
    have HN := Lib.hid hn
    clear hn hno hpre
    gi_wp2_with fail
    refine ⟨by simp, .inl ⟨_, _, rfl, run_takeDeferred hK, ?_⟩⟩
    exact ⟨.tuple #[.string (S []), .int .i64 100], canon_results _ w.heap.size rfl rfl _ _ _ (Boxed.cell ((World.putObj_heap_other (by omega)).trans b0)) (Boxed.cell ((World.putObj_heap_other (by omega)).trans b1)),
      by rw [HN.out]; rfl, h1.trans (belowK_b (w := w) (Nat.le_refl _) _ D _ _ (by omega) hK rfl rfl)⟩
end Go.Proofs.YthgjpppbpgndcaaGreatDoor
