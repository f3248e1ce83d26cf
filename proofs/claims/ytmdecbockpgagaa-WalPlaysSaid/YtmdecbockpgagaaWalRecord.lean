import Derived.Test.YtmdecbockpgagaaWalFrame
/- package wal: record. -/
namespace Go.Proofs.Ytmdecbockpgagaa
open Go.RowKit Go.Proofs.YtmdecbockpgagaaW.PrintWords Go.Proofs.YtmdecbockpgagaaW.PrintMore

/-- What record tells of bytes. -/
def RecP (x : List Int) (w : World) (e : Ending) (w' : World) : Prop :=
  ∃ r : Rc, e = .returned (.tuple #[rcV r, .bool (recOf x).isSome]) ∧ (∀ r', recOf x = some r' → r = r') ∧ Below w.heap.size w w'
theorem getT_by {xs : List Int} (h : By xs) (most : Int) : By (getT xs most).2.1 := by
  unfold getT
  split
  · exact h
  · split
    · exact h
    · split
      · exact h
      · exact (h.drop 2).drop _
theorem getText_as {w : World} {v : Value} {xs : List Int} (hr : RdB w v xs) (hby : By xs) {most : Int} {l r : List Int} {e0 : Int} {s : ByteArray} (h : getT xs most = (l, r, e0)) (hs : strOfNums l = s) :
    Calls Try.prog 83 #[v, .int .i64 most] w fun e w' => ∃ A c, e = .returned (.tuple #[.string s, .slice A r.length c, .int .i64 e0]) ∧ RdB w' (.slice A r.length c) r ∧ Below w.heap.size w w' := by
  refine (crc_getText v xs most w hr hby).mono ?_
  rintro e w' ⟨u, rfl, hu, hb⟩
  rw [h] at hu ⊢
  obtain ⟨A, c, rfl, -, -⟩ := id hu
  exact ⟨A, c, by rw [← hs], hu, hb⟩
theorem three_other {W : World} {b r : Nat} (hn : r ≠ b) (x y z : Value) : (((W.setCell ⟨b, 0, none⟩ x).setCell ⟨b, 1, none⟩ y).setCell ⟨b, 2, none⟩ z).heap[r]? = W.heap[r]? := by
  unfold World.setCell
  simp only [Array.getElem?_modify]
  rw [if_neg (fun e => hn e.symm), if_neg (fun e => hn e.symm), if_neg (fun e => hn e.symm)]
theorem three_facts {W : World} {b : Nat} {t : TypeId} {x0 y0 z0 : Value} (h : W.heap[b]? = some (.cells #[x0, y0, z0] t)) (x y : Value) : W.frozen? ⟨b, 0, none⟩ = false ∧ W.cell? ⟨b, 0, none⟩ = some x0 ∧ (W.setCell ⟨b, 0, none⟩ x).frozen? ⟨b, 1, none⟩ = false ∧ (W.setCell ⟨b, 0, none⟩ x).cell? ⟨b, 1, none⟩ = some y0 ∧ ((W.setCell ⟨b, 0, none⟩ x).setCell ⟨b, 1, none⟩ y).frozen? ⟨b, 2, none⟩ = false ∧ ((W.setCell ⟨b, 0, none⟩ x).setCell ⟨b, 1, none⟩ y).cell? ⟨b, 2, none⟩ = some z0 := by
  refine ⟨?_, cells_blk h 0 _ rfl, ?_, ?_, ?_, ?_⟩
  · unfold World.frozen?; rw [h]; simp
  · unfold World.frozen? World.setCell; simp only [Array.getElem?_modify, if_pos, h]; simp
  · unfold World.cell? World.setCell; simp only [Array.getElem?_modify, if_pos, h]; rfl
  · unfold World.frozen? World.setCell; simp only [Array.getElem?_modify, if_pos, h]; simp
  · unfold World.cell? World.setCell; simp only [Array.getElem?_modify, if_pos, h]; rfl
theorem three_done {W : World} {b : Nat} {t : TypeId} {x0 y0 z0 : Value} (h : W.heap[b]? = some (.cells #[x0, y0, z0] t)) (x y z : Value) : (((W.setCell ⟨b, 0, none⟩ x).setCell ⟨b, 1, none⟩ y).setCell ⟨b, 2, none⟩ z).heap[b]? = some (.cells #[x, y, z] t) := by
  unfold World.setCell
  simp only [Array.getElem?_modify, if_pos, h]
  rfl
theorem isSome_if {ok : Bool} {p : Prop} [Decidable p] (r : Rc) (h : p ↔ ok = true) : (if p then some r else none).isSome = ok := by
  cases ok with
  | true => rw [if_pos (h.2 rfl)]; rfl
  | false => rw [if_neg (fun hp => by have := h.1 hp; cases this)]; rfl
theorem record_results (tmps : Array Value) (g : Nat) (b : Value) (h2 : tmps[2]?.getD undef = .pointer (some ⟨g, 0, none⟩)) (h3 : tmps[3]?.getD undef = b) (W : World) {x y z : Value} (hx : W.cell? ⟨g, 0, none⟩ = some x) (hy : W.cell? ⟨g, 1, none⟩ = some y) (hz : W.cell? ⟨g, 2, none⟩ = some z) :
    (results Try.f72 tmps).run Try.prog W = .ok (.tuple #[.agg #[x, y, z], b]) W := by
  simp [results, Try.f72, go_sem, h2, h3, hx, hy, hz]
set_option maxRecDepth 100000 in
set_option maxHeartbeats 4000000 in
theorem wal_record (v : Value) (x : List Int) (w : World) (hr : RdB w v x) (hby : By x) : Calls Try.prog 72 #[v] w (RecP x w) := by
  have HR := Lib.hid hr
  have HY := Lib.hid hby
  obtain ⟨A, c, rfl, hc, hrd⟩ := hr
  clear hby
  cases x with
  | nil =>
    have hB := (Below.refl w.heap.size w).alloc (Nat.le_refl _) (.cells #[.int .u8 0, .string { data := #[] }, .string { data := #[] }] 50)
    have hn := alloc_new w (.cells #[.int .u8 0, .string { data := #[] }, .string { data := #[] }] 50)
    have HN := Lib.hid hn
    have HB := Lib.hid hB
    clear hrd hn hB
    go_enter Try.func72, Try.ntmps72
    go_wp2_with fail
    refine bodyPost_ret (record_results _ w.heap.size _ rfl rfl _ (cells_blk HN.out 0 _ rfl) (cells_blk HN.out 1 _ rfl) (cells_blk HN.out 2 _ rfl)) rfl ?_
    exact ⟨⟨0, _, _⟩, rfl, fun r' h => (by cases h), HB.out⟩
  | cons k bs =>
    have h0 := hrd.2.2 (by simp)
    obtain ⟨ad, rfl, hcell⟩ := h0
    have hck := hcell 0 (by simp)
    rw [show ad.add 0 = ad from rfl] at hck
    obtain ⟨ds, A3, c3, hds, hd1, hdT, hd3⟩ := cut_fromT (A := some ad) hc .i64 1 (by omega) (by rw [List.length_cons]; omega)
    have hds' : bs = ds := by rw [hds]; rfl
    have HDS := Lib.hid hds'
    have hB1 := (Below.refl w.heap.size w).alloc (Nat.le_refl _) (.cells #[.int .u8 0, .string { data := #[] }, .string { data := #[] }] 50)
    have hB2 := hB1.alloc (by simp) (.cells #[.int .u8 k, .string { data := #[] }, .string { data := #[] }] 50)
    have hck0 : w.cell? ad = some (.int .u8 k) := hck
    have hck1 := pw_cell_below hB1 hck0
    obtain ⟨⟨l1, r1, e1⟩, hg1⟩ : ∃ t, getT ds 40 = t := ⟨_, rfl⟩
    obtain ⟨⟨l2, r2, e2⟩, hg2⟩ : ∃ t, getT r1 2000 = t := ⟨_, rfl⟩
    obtain ⟨s, hs⟩ : ∃ s, strOfNums l1 = s := ⟨_, rfl⟩
    obtain ⟨t, ht⟩ : ∃ t, strOfNums l2 = t := ⟨_, rfl⟩
    have hdy : By ds := by rw [← hds']; exact fun y hy => HY.out y (List.mem_cons_of_mem _ hy)
    have hr1y : By r1 := by have := getT_by hdy 40; rwa [hg1] at this
    have HRO : Hid (recOf (k :: bs) = if e1 = 0 ∧ e2 = 0 ∧ r2 = [] ∧ rightB ⟨k, s, t⟩ = true then some ⟨k, s, t⟩ else none) := Lib.hid (by
      rw [hds']
      unfold recOf
      simp only [hg1, hg2, hs, ht])
    have KT := Lib.hid (getText_as (hdT _ (hrd.below hB2)) hdy hg1 hs)
    have KT2 := Lib.hid (fun W v (hv : RdB W v r1) => getText_as hv hr1y hg2 ht)
    have hnr : ((w.alloc (.cells #[.int .u8 0, .string { data := #[] }, .string { data := #[] }] 50)).alloc (.cells #[.int .u8 k, .string { data := #[] }, .string { data := #[] }] 50)).heap[w.heap.size + 1]? = some (.cells #[.int .u8 k, .string { data := #[] }, .string { data := #[] }] 50) := by
      have := alloc_new (w.alloc (.cells #[.int .u8 0, .string { data := #[] }, .string { data := #[] }] 50)) (.cells #[.int .u8 k, .string { data := #[] }, .string { data := #[] }] 50)
      rwa [World.size_alloc] at this
    have hnz : ((w.alloc (.cells #[.int .u8 0, .string { data := #[] }, .string { data := #[] }] 50)).alloc (.cells #[.int .u8 k, .string { data := #[] }, .string { data := #[] }] 50)).heap[w.heap.size]? = some (.cells #[.int .u8 0, .string { data := #[] }, .string { data := #[] }] 50) :=
      (Below.heap_alloc _ _ _ (by simp)).trans (alloc_new w _)
    have HNR := Lib.hid hnr
    have HNZ := Lib.hid hnz
    clear hg1 hg2 hs ht hdy hr1y hnr hnz
    have HB2 := Lib.hid hB2
    have hl0 : ((((k :: bs).length : Nat) : Int) == 0) = false := by rw [beq_eq_false_iff_ne]; simp; omega
    have hl0' : 0 < (((k :: bs).length : Nat) : Int) := by rw [List.length_cons]; omega
    have hlz : ¬ (k :: bs).length = 0 := by simp
    obtain ⟨n, hn⟩ : ∃ n, (k :: bs).length = n := ⟨_, rfl⟩
    rw [hn] at hl0 hl0' hd1 hc hlz
    have hix : ∀ W, (Instr.indexAt 22 (.slice (some ad) n c) (.int .i64 0)).run Try.prog W = .ok (.pointer (some ad)) W := fun W => by
      have h6 : 0 ≤ (0 : Int) ∧ (0 : Int) < (n : Int) := ⟨by omega, hl0'⟩
      go_simp
    have hn1 : Hid ((k :: bs).length = n) := Lib.hid hn
    rw [hn]
    clear hrd hcell hck hds hds' hdT hd3 hB1 hB2 hn HR
    go_enter Try.func72, Try.ntmps72
    go_wp2_with fail
    refine KT.out.mono ?_
    rintro e w3 ⟨A4, c4, rfl, hu3, hb3⟩
    have K2 := Lib.hid (KT2.out _ _ hu3)
    have HU3 := Lib.hid hu3
    have HB3 := Lib.hid hb3
    clear KT KT2 hu3 hb3
    go_wp2_with fail
    refine K2.out.mono ?_
    rintro e w4 ⟨A5, c5, rfl, hu4, hb4⟩
    have hb24 := HB3.out.trans (hb4.mono HB3.out.size)
    have HBW := Lib.hid (HB2.out.trans (hb24.mono HB2.out.size))
    have hsz : ((w.alloc (.cells #[.int .u8 0, .string { data := #[] }, .string { data := #[] }] 50)).alloc (.cells #[.int .u8 k, .string { data := #[] }, .string { data := #[] }] 50)).heap.size = w.heap.size + 1 + 1 := by simp
    have hr4 : w4.heap[w.heap.size + 1]? = some (.cells #[.int .u8 k, .string { data := #[] }, .string { data := #[] }] 50) := (hb24.block _ (by rw [hsz]; omega)).trans HNR.out
    have hz4 : w4.heap[w.heap.size]? = some (.cells #[.int .u8 0, .string { data := #[] }, .string { data := #[] }] 50) := (hb24.block _ (by rw [hsz]; omega)).trans HNZ.out
    have z1 : w4.frozen? ⟨w.heap.size + 1, 1, none⟩ = false := by unfold World.frozen?; rw [hr4]; simp
    have z2 : (w4.setCell ⟨w.heap.size + 1, 1, none⟩ (.string s)).frozen? ⟨w.heap.size + 1, 2, none⟩ = false := by
      unfold World.frozen? World.setCell
      simp only [Array.getElem?_modify, if_pos, hr4]
      simp
    have y1 := cells_blk hr4 1 _ rfl
    have y2 : (w4.setCell ⟨w.heap.size + 1, 1, none⟩ (.string s)).cell? ⟨w.heap.size + 1, 2, none⟩ = some (.string { data := #[] }) := by
      unfold World.cell? World.setCell
      simp only [Array.getElem?_modify, if_pos, hr4]
      rfl
    obtain ⟨W5, hW5⟩ : ∃ W, (w4.setCell ⟨w.heap.size + 1, 1, none⟩ (.string s)).setCell ⟨w.heap.size + 1, 2, none⟩ (.string t) = W := ⟨_, rfl⟩
    have h5r : W5.heap[w.heap.size + 1]? = some (.cells #[.int .u8 k, .string s, .string t] 50) := by
      rw [← hW5]
      unfold World.setCell
      simp only [Array.getElem?_modify, if_pos, hr4]
      rfl
    have h5z : W5.heap[w.heap.size]? = some (.cells #[.int .u8 0, .string { data := #[] }, .string { data := #[] }] 50) := by
      rw [← hW5]
      unfold World.setCell
      simp only [Array.getElem?_modify]
      rw [if_neg (by simp), if_neg (by simp)]
      exact hz4
    have HBV : Hid (Below w.heap.size w W5) := Lib.hid (by
      rw [← hW5]
      exact (HBW.out.setCell (p := ⟨w.heap.size + 1, 1, none⟩) (Nat.le_succ _) _).setCell (p := ⟨w.heap.size + 1, 2, none⟩) (Nat.le_succ _) _)
    have H5R := Lib.hid h5r
    have H5Z := Lib.hid h5z
    clear hr4 hz4 hb24 hb4 h5r h5z hu4 K2 HB3 HNR HNZ
    go_upto_region 7 with fail
    clear z1 z2 y1 y2 hW5
    obtain ⟨b0, hb0⟩ : ∃ b, w.heap.size = b := ⟨_, rfl⟩
    obtain ⟨rb, hrb⟩ : ∃ b, b0 + 1 = b := ⟨_, rfl⟩
    have hne : rb ≠ b0 := by omega
    simp only [hb0, hrb] at H5R H5Z ⊢
    obtain ⟨Y, hY⟩ : ∃ Y, W5.drew = Y := ⟨_, rfl⟩
    have HNRY : Hid (Y.heap[rb]? = some (.cells #[.int .u8 k, .string s, .string t] 50)) := Lib.hid (by rw [← hY]; exact H5R.out)
    have HNZY : Hid (Y.heap[b0]? = some (.cells #[.int .u8 0, .string { data := #[] }, .string { data := #[] }] 50)) := Lib.hid (by rw [← hY]; exact H5Z.out)
    have HBY : Hid (Below b0 w Y) := Lib.hid (by rw [← hY, ← hb0]; exact HBV.out.drew)
    have SC : Hid (∀ W : World, W.heap[rb]? = some (.cells #[.int .u8 k, .string s, .string t] 50) → W.cell? ⟨rb, 0, none⟩ = some (.int .u8 k) ∧ W.cell? ⟨rb, 1, none⟩ = some (.string s) ∧ W.cell? ⟨rb, 2, none⟩ = some (.string t)) := Lib.hid (fun W h => ⟨cells_blk h 0 _ rfl, cells_blk h 1 _ rfl, cells_blk h 2 _ rfl⟩)
    have SS : Hid (∀ W : World, Below Y.heap.size Y W → W.cell? ⟨rb, 0, none⟩ = some (.int .u8 k) ∧ W.cell? ⟨rb, 1, none⟩ = some (.string s) ∧ W.cell? ⟨rb, 2, none⟩ = some (.string t)) := Lib.hid (fun W h => SC.out W ((h.block rb (Array.getElem?_eq_some_iff.1 HNRY.out).1).trans HNRY.out))
    have SP : Hid (∀ W : World, Below Y.heap.size Y W → (((W.setCell ⟨b0, 0, none⟩ (.int .u8 k)).setCell ⟨b0, 1, none⟩ (.string s)).setCell ⟨b0, 2, none⟩ (.string t)).cell? ⟨rb, 0, none⟩ = some (.int .u8 k) ∧ (((W.setCell ⟨b0, 0, none⟩ (.int .u8 k)).setCell ⟨b0, 1, none⟩ (.string s)).setCell ⟨b0, 2, none⟩ (.string t)).cell? ⟨rb, 1, none⟩ = some (.string s) ∧ (((W.setCell ⟨b0, 0, none⟩ (.int .u8 k)).setCell ⟨b0, 1, none⟩ (.string s)).setCell ⟨b0, 2, none⟩ (.string t)).cell? ⟨rb, 2, none⟩ = some (.string t)) := Lib.hid (fun W h => SC.out _ (by
      refine (three_other hne _ _ _).trans ?_
      exact (h.block rb (Array.getElem?_eq_some_iff.1 HNRY.out).1).trans HNRY.out))
    have ZZ : Hid (∀ W : World, Below Y.heap.size Y W → W.frozen? ⟨b0, 0, none⟩ = false ∧ W.cell? ⟨b0, 0, none⟩ = some (.int .u8 0) ∧ (W.setCell ⟨b0, 0, none⟩ (.int .u8 k)).frozen? ⟨b0, 1, none⟩ = false ∧ (W.setCell ⟨b0, 0, none⟩ (.int .u8 k)).cell? ⟨b0, 1, none⟩ = some (.string { data := #[] }) ∧ ((W.setCell ⟨b0, 0, none⟩ (.int .u8 k)).setCell ⟨b0, 1, none⟩ (.string s)).frozen? ⟨b0, 2, none⟩ = false ∧ ((W.setCell ⟨b0, 0, none⟩ (.int .u8 k)).setCell ⟨b0, 1, none⟩ (.string s)).cell? ⟨b0, 2, none⟩ = some (.string { data := #[] })) := Lib.hid (fun W h => three_facts ((h.block b0 (Array.getElem?_eq_some_iff.1 HNZY.out).1).trans HNZY.out) _ _)
    have SE : Hid (∀ W : World, Below Y.heap.size Y W → ((((W.setCell ⟨b0, 0, none⟩ (.int .u8 k)).setCell ⟨b0, 1, none⟩ (.string s)).setCell ⟨b0, 2, none⟩ (.string t)).heap[b0]? = some (.cells #[.int .u8 k, .string s, .string t] 50)) ∧ Below b0 w (((W.setCell ⟨b0, 0, none⟩ (.int .u8 k)).setCell ⟨b0, 1, none⟩ (.string s)).setCell ⟨b0, 2, none⟩ (.string t))) := Lib.hid (fun W h => ⟨three_done ((h.block b0 (Array.getElem?_eq_some_iff.1 HNZY.out).1).trans HNZY.out) _ _ _,
      (((HBY.out.trans (h.mono (Nat.le_of_lt (Array.getElem?_eq_some_iff.1 HNZY.out).1))).setCell (p := ⟨b0, 0, none⟩) (Nat.le_refl _) _).setCell (p := ⟨b0, 1, none⟩) (Nat.le_refl _) _).setCell (p := ⟨b0, 2, none⟩) (Nat.le_refl _) _⟩)
    unfold RecP
    rw [hb0]
    rw [hn1.out] at *
    clear HBV HBW HB2 H5R H5Z
    by_cases h1 : e1 = 0
    · subst h1
      by_cases h2 : e2 = 0
      · subst h2
        by_cases h3 : r2.length = 0
        · have h3' : ((r2.length : Int) == 0) = true := by rw [h3]; rfl
          have h3n : r2 = [] := List.length_eq_zero_iff.1 h3
          obtain ⟨ok, hok⟩ : ∃ ok, rightB ⟨k, s, t⟩ = ok := ⟨_, rfl⟩
          have HI : Hid ((recOf (k :: bs)).isSome = ok) := Lib.hid (by rw [HRO.out]; exact isSome_if _ ⟨fun h => by rw [← hok]; exact h.2.2.2, fun h => ⟨rfl, rfl, h3n, by rw [hok]; exact h⟩⟩)
          have HJ : Hid (∀ r', recOf (k :: bs) = some r' → (⟨k, s, t⟩ : Rc) = r') := Lib.hid (fun r' h => by
            rw [HRO.out] at h
            split at h
            · injection h
            · cases h)
          clear h3n h3
          refine wp_region_noPanic ?_
          refine wp_region_held_drew (S := fun W => W.cell? ⟨rb, 0, none⟩ = some (.int .u8 k) ∧ W.cell? ⟨rb, 1, none⟩ = some (.string s) ∧ W.cell? ⟨rb, 2, none⟩ = some (.string t)) (by kernel_rfl) (by rw [hY]; exact SS.out _ (Below.refl _ _)) (fun hHeld => ?_)
          rw [hY] at hHeld ⊢
          clear hY
          refine held_take (i := 0) (v := ?_) rfl (by kernel_rfl) (by kernel_rfl) (by kernel_rfl) (fun _ _ _ h => h) (by rfl) hHeld ?y7_0 ?_
          case y7_0 => (intro w hSw; (try dsimp only at hSw); go_simp; try with_reducible rfl)
          try simp only [Act.put, List.setIfInBounds_toArray, List.set_cons_zero, List.set_cons_succ]
          refine held_take (i := 1) (v := ?_) rfl (by kernel_rfl) (by kernel_rfl) (by kernel_rfl) (fun _ _ _ h => h) (by rfl) hHeld ?y7_1 ?_
          case y7_1 => (intro w hSw; (try dsimp only at hSw); go_simp; try with_reducible rfl)
          try simp only [Act.put, List.setIfInBounds_toArray, List.set_cons_zero, List.set_cons_succ]
          refine held_take (i := 2) (v := ?_) rfl (by kernel_rfl) (by kernel_rfl) (by kernel_rfl) (fun _ _ _ h => h) (by rfl) hHeld ?y7_2 ?_
          case y7_2 => (intro w hSw; (try dsimp only at hSw); go_simp; try with_reducible rfl)
          try simp only [Act.put, List.setIfInBounds_toArray, List.set_cons_zero, List.set_cons_succ]
          refine held_take (i := 3) (v := ?_) rfl (by kernel_rfl) (by kernel_rfl) (by kernel_rfl) (fun _ _ _ h => h) (by rfl) hHeld ?y7_3 ?_
          case y7_3 => (intro w hSw; (try dsimp only at hSw); go_simp; try with_reducible rfl)
          try simp only [Act.put, List.setIfInBounds_toArray, List.set_cons_zero, List.set_cons_succ]
          refine held_take (i := 4) (v := ?_) rfl (by kernel_rfl) (by kernel_rfl) (by kernel_rfl) (fun _ _ _ h => h) (by rfl) hHeld ?y7_4 ?_
          case y7_4 => (intro w hSw; (try dsimp only at hSw); go_simp; try with_reducible rfl)
          try simp only [Act.put, List.setIfInBounds_toArray, List.set_cons_zero, List.set_cons_succ]
          refine held_take (i := 5) (v := ?_) rfl (by kernel_rfl) (by kernel_rfl) (by kernel_rfl) (fun _ _ _ h => h) (by rfl) hHeld ?y7_5 ?_
          case y7_5 => (intro w hSw; (try dsimp only at hSw); go_simp; try with_reducible rfl)
          try simp only [Act.put, List.setIfInBounds_toArray, List.set_cons_zero, List.set_cons_succ]
          refine held_take (i := 6) (v := ?_) rfl (by kernel_rfl) (by kernel_rfl) (by kernel_rfl) (fun _ _ _ h => h) (by rfl) hHeld ?y7_6 ?_
          case y7_6 => (intro w hSw; (try dsimp only at hSw); go_simp; try with_reducible rfl)
          try simp only [Act.put, List.setIfInBounds_toArray, List.set_cons_zero, List.set_cons_succ]
          refine held_take (i := 7) (v := ?_) rfl (by kernel_rfl) (by kernel_rfl) (by kernel_rfl) (fun _ _ _ h => h) (by rfl) hHeld ?y7_7 ?_
          case y7_7 => (intro w hSw; (try dsimp only at hSw); go_simp; try with_reducible rfl)
          try simp only [Act.put, List.setIfInBounds_toArray, List.set_cons_zero, List.set_cons_succ]
          refine held_take (i := 8) (v := ?_) rfl (by kernel_rfl) (by kernel_rfl) (by kernel_rfl) (fun _ _ _ h => h) (by rfl) hHeld ?y7_8 ?_
          case y7_8 => (intro w hSw; (try dsimp only at hSw); go_simp; try with_reducible rfl)
          try simp only [Act.put, List.setIfInBounds_toArray, List.set_cons_zero, List.set_cons_succ]
          refine held_take (i := 9) (v := ?_) rfl (by kernel_rfl) (by kernel_rfl) (by kernel_rfl) (fun _ _ _ h => h) (by rfl) hHeld ?y7_9 ?_
          case y7_9 => (intro w hSw; (try dsimp only at hSw); go_simp; try with_reducible rfl)
          try simp only [Act.put, List.setIfInBounds_toArray, List.set_cons_zero, List.set_cons_succ]
          refine held_take (i := 10) (v := ?_) rfl (by kernel_rfl) (by kernel_rfl) (by kernel_rfl) (fun _ _ _ h => h) (by rfl) hHeld ?y7_10 ?_
          case y7_10 => (intro w hSw; (try dsimp only at hSw); go_simp; try with_reducible rfl)
          try simp only [Act.put, List.setIfInBounds_toArray, List.set_cons_zero, List.set_cons_succ]
          refine held_take (i := 11) (v := ?_) rfl (by kernel_rfl) (by kernel_rfl) (by kernel_rfl) (fun _ _ _ h => h) (by rfl) hHeld ?y7_11 ?_
          case y7_11 => (intro w hSw; (try dsimp only at hSw); go_simp; try with_reducible rfl)
          try simp only [Act.put, List.setIfInBounds_toArray, List.set_cons_zero, List.set_cons_succ]
          refine held_take (i := 12) (v := ?_) rfl (by kernel_rfl) (by kernel_rfl) (by kernel_rfl) (fun _ _ _ h => h) (by rfl) hHeld ?y7_12 ?_
          case y7_12 => (intro w hSw; (try dsimp only at hSw); go_simp; try with_reducible rfl)
          try simp only [Act.put, List.setIfInBounds_toArray, List.set_cons_zero, List.set_cons_succ]
          refine held_take (i := 13) (v := ?_) rfl (by kernel_rfl) (by kernel_rfl) (by kernel_rfl) (fun _ _ _ h => h) (by rfl) hHeld ?y7_13 ?_
          case y7_13 => (intro w hSw; (try dsimp only at hSw); go_simp; try with_reducible rfl)
          try simp only [Act.put, List.setIfInBounds_toArray, List.set_cons_zero, List.set_cons_succ]
          refine held_one (i := 14) (by kernel_rfl) rfl (fun K hK => ?_)
          (refine step_call (by rfl) _ _ (by rfl) Try.func62 (by kernel_rfl) (by kernel_rfl) (by simp only [List.map_toArray, List.map_cons, List.map_nil]; rfl) ((wal_right ⟨k, s, t⟩ _).mono ?_); rintro e W14 ⟨rfl, HB14⟩; have hS14 := SS.out _ HB14; refine ⟨_, rfl, ?_⟩)
          refine hK.out _ _ ?_ (fun hHeld => ?_)
          · exact hS14
          clear hK K
          try simp only [Act.put, List.setIfInBounds_toArray, List.set_cons_zero, List.set_cons_succ]
          refine held_take (i := 15) (v := ?_) rfl (by kernel_rfl) (by kernel_rfl) (by kernel_rfl) (fun _ _ _ h => h) (by rfl) hHeld ?y7_15 ?_
          case y7_15 => (intro w hSw; (try dsimp only at hSw); go_simp; try with_reducible rfl)
          try simp only [Act.put, List.setIfInBounds_toArray, List.set_cons_zero, List.set_cons_succ]
          refine held_one (i := 16) (by kernel_rfl) rfl (fun K hK => ?_)
          (obtain ⟨z0, y0, z1, y1, z2, y2⟩ := ZZ.out _ HB14; have hS16 := SP.out _ HB14; go_simp)
          refine hK.out _ _ ?_ (fun hHeld => ?_)
          · exact hS16
          clear hK K
          try simp only [Act.put, List.setIfInBounds_toArray, List.set_cons_zero, List.set_cons_succ]
          refine held_take (i := 17) (v := ?_) rfl (by kernel_rfl) (by kernel_rfl) (by kernel_rfl) (fun _ _ _ h => h) (by rfl) hHeld ?y7_17 ?_
          case y7_17 => (intro w hSw; (try dsimp only at hSw); go_simp; try with_reducible rfl)
          try simp only [Act.put, List.setIfInBounds_toArray, List.set_cons_zero, List.set_cons_succ]
          refine wpAnyH_done (by kernel_rfl) ?_ _
          refine NoPanic.normal ?_
          obtain ⟨hd, hbe⟩ := SE.out _ HB14
          have HD := Lib.hid hd
          have HBE := Lib.hid hbe
          clear hd hbe
          go_wp2_with fail
          refine bodyPost_ret (record_results _ b0 _ rfl rfl _ (cells_blk HD.out 0 _ rfl) (cells_blk HD.out 1 _ rfl) (cells_blk HD.out 2 _ rfl)) rfl ?_
          exact ⟨⟨k, s, t⟩, by rw [HI.out]; rfl, HJ.out, by rw [hb0]; exact HBE.out⟩
        · have h3' : ((r2.length : Int) == 0) = false := by rw [beq_eq_false_iff_ne]; omega
          have HI : Hid ((recOf (k :: bs)).isSome = false) := Lib.hid (by rw [HRO.out, if_neg (fun h => h3 (by rw [h.2.2.1]; rfl))]; rfl)
          have HJ : Hid (∀ r', recOf (k :: bs) = some r' → (⟨k, s, t⟩ : Rc) = r') := Lib.hid (fun r' h => by rw [HRO.out, if_neg (fun h => h3 (by rw [h.2.2.1]; rfl))] at h; cases h)
          refine wp_region_noPanic ?_
          refine wp_region_held_drew (S := fun W => W.cell? ⟨rb, 0, none⟩ = some (.int .u8 k) ∧ W.cell? ⟨rb, 1, none⟩ = some (.string s) ∧ W.cell? ⟨rb, 2, none⟩ = some (.string t)) (by kernel_rfl) (by rw [hY]; exact SS.out _ (Below.refl _ _)) (fun hHeld => ?_)
          rw [hY] at hHeld ⊢
          clear hY
          refine held_take (i := 0) (v := ?_) rfl (by kernel_rfl) (by kernel_rfl) (by kernel_rfl) (fun _ _ _ h => h) (by rfl) hHeld ?y7_0 ?_
          case y7_0 => (intro w hSw; (try dsimp only at hSw); go_simp; try with_reducible rfl)
          try simp only [Act.put, List.setIfInBounds_toArray, List.set_cons_zero, List.set_cons_succ]
          refine held_take (i := 1) (v := ?_) rfl (by kernel_rfl) (by kernel_rfl) (by kernel_rfl) (fun _ _ _ h => h) (by rfl) hHeld ?y7_1 ?_
          case y7_1 => (intro w hSw; (try dsimp only at hSw); go_simp; try with_reducible rfl)
          try simp only [Act.put, List.setIfInBounds_toArray, List.set_cons_zero, List.set_cons_succ]
          refine held_take (i := 2) (v := ?_) rfl (by kernel_rfl) (by kernel_rfl) (by kernel_rfl) (fun _ _ _ h => h) (by rfl) hHeld ?y7_2 ?_
          case y7_2 => (intro w hSw; (try dsimp only at hSw); go_simp; try with_reducible rfl)
          try simp only [Act.put, List.setIfInBounds_toArray, List.set_cons_zero, List.set_cons_succ]
          refine held_take (i := 3) (v := ?_) rfl (by kernel_rfl) (by kernel_rfl) (by kernel_rfl) (fun _ _ _ h => h) (by rfl) hHeld ?y7_3 ?_
          case y7_3 => (intro w hSw; (try dsimp only at hSw); go_simp; try with_reducible rfl)
          try simp only [Act.put, List.setIfInBounds_toArray, List.set_cons_zero, List.set_cons_succ]
          refine held_take (i := 4) (v := ?_) rfl (by kernel_rfl) (by kernel_rfl) (by kernel_rfl) (fun _ _ _ h => h) (by rfl) hHeld ?y7_4 ?_
          case y7_4 => (intro w hSw; (try dsimp only at hSw); go_simp; try with_reducible rfl)
          try simp only [Act.put, List.setIfInBounds_toArray, List.set_cons_zero, List.set_cons_succ]
          refine held_take (i := 5) (v := ?_) rfl (by kernel_rfl) (by kernel_rfl) (by kernel_rfl) (fun _ _ _ h => h) (by rfl) hHeld ?y7_5 ?_
          case y7_5 => (intro w hSw; (try dsimp only at hSw); go_simp; try with_reducible rfl)
          try simp only [Act.put, List.setIfInBounds_toArray, List.set_cons_zero, List.set_cons_succ]
          refine held_take (i := 6) (v := ?_) rfl (by kernel_rfl) (by kernel_rfl) (by kernel_rfl) (fun _ _ _ h => h) (by rfl) hHeld ?y7_6 ?_
          case y7_6 => (intro w hSw; (try dsimp only at hSw); go_simp; try with_reducible rfl)
          try simp only [Act.put, List.setIfInBounds_toArray, List.set_cons_zero, List.set_cons_succ]
          refine held_take (i := 7) (v := ?_) rfl (by kernel_rfl) (by kernel_rfl) (by kernel_rfl) (fun _ _ _ h => h) (by rfl) hHeld ?y7_7 ?_
          case y7_7 => (intro w hSw; (try dsimp only at hSw); go_simp; try with_reducible rfl)
          try simp only [Act.put, List.setIfInBounds_toArray, List.set_cons_zero, List.set_cons_succ]
          refine held_take (i := 8) (v := ?_) rfl (by kernel_rfl) (by kernel_rfl) (by kernel_rfl) (fun _ _ _ h => h) (by rfl) hHeld ?y7_8 ?_
          case y7_8 => (intro w hSw; (try dsimp only at hSw); go_simp; try with_reducible rfl)
          try simp only [Act.put, List.setIfInBounds_toArray, List.set_cons_zero, List.set_cons_succ]
          refine held_take (i := 9) (v := ?_) rfl (by kernel_rfl) (by kernel_rfl) (by kernel_rfl) (fun _ _ _ h => h) (by rfl) hHeld ?y7_9 ?_
          case y7_9 => (intro w hSw; (try dsimp only at hSw); go_simp; try with_reducible rfl)
          try simp only [Act.put, List.setIfInBounds_toArray, List.set_cons_zero, List.set_cons_succ]
          refine held_take (i := 10) (v := ?_) rfl (by kernel_rfl) (by kernel_rfl) (by kernel_rfl) (fun _ _ _ h => h) (by rfl) hHeld ?y7_10 ?_
          case y7_10 => (intro w hSw; (try dsimp only at hSw); go_simp; try with_reducible rfl)
          try simp only [Act.put, List.setIfInBounds_toArray, List.set_cons_zero, List.set_cons_succ]
          refine held_take (i := 11) (v := ?_) rfl (by kernel_rfl) (by kernel_rfl) (by kernel_rfl) (fun _ _ _ h => h) (by rfl) hHeld ?y7_11 ?_
          case y7_11 => (intro w hSw; (try dsimp only at hSw); go_simp; try with_reducible rfl)
          try simp only [Act.put, List.setIfInBounds_toArray, List.set_cons_zero, List.set_cons_succ]
          refine held_take (i := 12) (v := ?_) rfl (by kernel_rfl) (by kernel_rfl) (by kernel_rfl) (fun _ _ _ h => h) (by rfl) hHeld ?y7_12 ?_
          case y7_12 => (intro w hSw; (try dsimp only at hSw); go_simp; try with_reducible rfl)
          try simp only [Act.put, List.setIfInBounds_toArray, List.set_cons_zero, List.set_cons_succ]
          refine held_off (i := 13) rfl (by kernel_rfl) (by kernel_rfl) (by kernel_rfl) (fun _ _ _ h => h) (by rfl) hHeld ?_
          try simp only [Act.put, List.setIfInBounds_toArray, List.set_cons_zero, List.set_cons_succ]
          refine held_off (i := 14) rfl (by kernel_rfl) (by kernel_rfl) (by kernel_rfl) (fun _ _ _ h => h) (by rfl) hHeld ?_
          try simp only [Act.put, List.setIfInBounds_toArray, List.set_cons_zero, List.set_cons_succ]
          refine held_take (i := 15) (v := ?_) rfl (by kernel_rfl) (by kernel_rfl) (by kernel_rfl) (fun _ _ _ h => h) (by rfl) hHeld ?y7_15 ?_
          case y7_15 => (intro w hSw; (try dsimp only at hSw); go_simp; try with_reducible rfl)
          try simp only [Act.put, List.setIfInBounds_toArray, List.set_cons_zero, List.set_cons_succ]
          refine held_one (i := 16) (by kernel_rfl) rfl (fun K hK => ?_)
          (obtain ⟨z0, y0, z1, y1, z2, y2⟩ := ZZ.out _ (Below.refl _ _); have hS16 := SP.out _ (Below.refl _ _); go_simp)
          refine hK.out _ _ ?_ (fun hHeld => ?_)
          · exact hS16
          clear hK K
          try simp only [Act.put, List.setIfInBounds_toArray, List.set_cons_zero, List.set_cons_succ]
          refine held_take (i := 17) (v := ?_) rfl (by kernel_rfl) (by kernel_rfl) (by kernel_rfl) (fun _ _ _ h => h) (by rfl) hHeld ?y7_17 ?_
          case y7_17 => (intro w hSw; (try dsimp only at hSw); go_simp; try with_reducible rfl)
          try simp only [Act.put, List.setIfInBounds_toArray, List.set_cons_zero, List.set_cons_succ]
          refine wpAnyH_done (by kernel_rfl) ?_ _
          refine NoPanic.normal ?_
          obtain ⟨hd, hbe⟩ := SE.out _ (Below.refl _ _)
          have HD := Lib.hid hd
          have HBE := Lib.hid hbe
          clear hd hbe
          go_wp2_with fail
          refine bodyPost_ret (record_results _ b0 _ rfl rfl _ (cells_blk HD.out 0 _ rfl) (cells_blk HD.out 1 _ rfl) (cells_blk HD.out 2 _ rfl)) rfl ?_
          exact ⟨⟨k, s, t⟩, by rw [HI.out]; rfl, HJ.out, by rw [hb0]; exact HBE.out⟩
      · have h2' : (e2 == 0) = false := by rw [beq_eq_false_iff_ne]; exact h2
        have HI : Hid ((recOf (k :: bs)).isSome = false) := Lib.hid (by rw [HRO.out, if_neg (fun h => h2 h.2.1)]; rfl)
        have HJ : Hid (∀ r', recOf (k :: bs) = some r' → (⟨k, s, t⟩ : Rc) = r') := Lib.hid (fun r' h => by rw [HRO.out, if_neg (fun h => h2 h.2.1)] at h; cases h)
        refine wp_region_noPanic ?_
        refine wp_region_held_drew (S := fun W => W.cell? ⟨rb, 0, none⟩ = some (.int .u8 k) ∧ W.cell? ⟨rb, 1, none⟩ = some (.string s) ∧ W.cell? ⟨rb, 2, none⟩ = some (.string t)) (by kernel_rfl) (by rw [hY]; exact SS.out _ (Below.refl _ _)) (fun hHeld => ?_)
        rw [hY] at hHeld ⊢
        clear hY
        refine held_take (i := 0) (v := ?_) rfl (by kernel_rfl) (by kernel_rfl) (by kernel_rfl) (fun _ _ _ h => h) (by rfl) hHeld ?y7_0 ?_
        case y7_0 => (intro w hSw; (try dsimp only at hSw); go_simp; try with_reducible rfl)
        try simp only [Act.put, List.setIfInBounds_toArray, List.set_cons_zero, List.set_cons_succ]
        refine held_take (i := 1) (v := ?_) rfl (by kernel_rfl) (by kernel_rfl) (by kernel_rfl) (fun _ _ _ h => h) (by rfl) hHeld ?y7_1 ?_
        case y7_1 => (intro w hSw; (try dsimp only at hSw); go_simp; try with_reducible rfl)
        try simp only [Act.put, List.setIfInBounds_toArray, List.set_cons_zero, List.set_cons_succ]
        refine held_take (i := 2) (v := ?_) rfl (by kernel_rfl) (by kernel_rfl) (by kernel_rfl) (fun _ _ _ h => h) (by rfl) hHeld ?y7_2 ?_
        case y7_2 => (intro w hSw; (try dsimp only at hSw); go_simp; try with_reducible rfl)
        try simp only [Act.put, List.setIfInBounds_toArray, List.set_cons_zero, List.set_cons_succ]
        refine held_take (i := 3) (v := ?_) rfl (by kernel_rfl) (by kernel_rfl) (by kernel_rfl) (fun _ _ _ h => h) (by rfl) hHeld ?y7_3 ?_
        case y7_3 => (intro w hSw; (try dsimp only at hSw); go_simp; try with_reducible rfl)
        try simp only [Act.put, List.setIfInBounds_toArray, List.set_cons_zero, List.set_cons_succ]
        refine held_take (i := 4) (v := ?_) rfl (by kernel_rfl) (by kernel_rfl) (by kernel_rfl) (fun _ _ _ h => h) (by rfl) hHeld ?y7_4 ?_
        case y7_4 => (intro w hSw; (try dsimp only at hSw); go_simp; try with_reducible rfl)
        try simp only [Act.put, List.setIfInBounds_toArray, List.set_cons_zero, List.set_cons_succ]
        refine held_take (i := 5) (v := ?_) rfl (by kernel_rfl) (by kernel_rfl) (by kernel_rfl) (fun _ _ _ h => h) (by rfl) hHeld ?y7_5 ?_
        case y7_5 => (intro w hSw; (try dsimp only at hSw); go_simp; try with_reducible rfl)
        try simp only [Act.put, List.setIfInBounds_toArray, List.set_cons_zero, List.set_cons_succ]
        refine held_take (i := 6) (v := ?_) rfl (by kernel_rfl) (by kernel_rfl) (by kernel_rfl) (fun _ _ _ h => h) (by rfl) hHeld ?y7_6 ?_
        case y7_6 => (intro w hSw; (try dsimp only at hSw); go_simp; try with_reducible rfl)
        try simp only [Act.put, List.setIfInBounds_toArray, List.set_cons_zero, List.set_cons_succ]
        refine held_take (i := 7) (v := ?_) rfl (by kernel_rfl) (by kernel_rfl) (by kernel_rfl) (fun _ _ _ h => h) (by rfl) hHeld ?y7_7 ?_
        case y7_7 => (intro w hSw; (try dsimp only at hSw); go_simp; try with_reducible rfl)
        try simp only [Act.put, List.setIfInBounds_toArray, List.set_cons_zero, List.set_cons_succ]
        refine held_off (i := 8) rfl (by kernel_rfl) (by kernel_rfl) (by kernel_rfl) (fun _ _ _ h => h) (by rfl) hHeld ?_
        try simp only [Act.put, List.setIfInBounds_toArray, List.set_cons_zero, List.set_cons_succ]
        refine held_off (i := 9) rfl (by kernel_rfl) (by kernel_rfl) (by kernel_rfl) (fun _ _ _ h => h) (by rfl) hHeld ?_
        try simp only [Act.put, List.setIfInBounds_toArray, List.set_cons_zero, List.set_cons_succ]
        refine held_off (i := 10) rfl (by kernel_rfl) (by kernel_rfl) (by kernel_rfl) (fun _ _ _ h => h) (by rfl) hHeld ?_
        try simp only [Act.put, List.setIfInBounds_toArray, List.set_cons_zero, List.set_cons_succ]
        refine held_take (i := 11) (v := ?_) rfl (by kernel_rfl) (by kernel_rfl) (by kernel_rfl) (fun _ _ _ h => h) (by rfl) hHeld ?y7_11 ?_
        case y7_11 => (intro w hSw; (try dsimp only at hSw); go_simp; try with_reducible rfl)
        try simp only [Act.put, List.setIfInBounds_toArray, List.set_cons_zero, List.set_cons_succ]
        refine held_take (i := 12) (v := ?_) rfl (by kernel_rfl) (by kernel_rfl) (by kernel_rfl) (fun _ _ _ h => h) (by rfl) hHeld ?y7_12 ?_
        case y7_12 => (intro w hSw; (try dsimp only at hSw); go_simp; try with_reducible rfl)
        try simp only [Act.put, List.setIfInBounds_toArray, List.set_cons_zero, List.set_cons_succ]
        refine held_off (i := 13) rfl (by kernel_rfl) (by kernel_rfl) (by kernel_rfl) (fun _ _ _ h => h) (by rfl) hHeld ?_
        try simp only [Act.put, List.setIfInBounds_toArray, List.set_cons_zero, List.set_cons_succ]
        refine held_off (i := 14) rfl (by kernel_rfl) (by kernel_rfl) (by kernel_rfl) (fun _ _ _ h => h) (by rfl) hHeld ?_
        try simp only [Act.put, List.setIfInBounds_toArray, List.set_cons_zero, List.set_cons_succ]
        refine held_take (i := 15) (v := ?_) rfl (by kernel_rfl) (by kernel_rfl) (by kernel_rfl) (fun _ _ _ h => h) (by rfl) hHeld ?y7_15 ?_
        case y7_15 => (intro w hSw; (try dsimp only at hSw); go_simp; try with_reducible rfl)
        try simp only [Act.put, List.setIfInBounds_toArray, List.set_cons_zero, List.set_cons_succ]
        refine held_one (i := 16) (by kernel_rfl) rfl (fun K hK => ?_)
        (obtain ⟨z0, y0, z1, y1, z2, y2⟩ := ZZ.out _ (Below.refl _ _); have hS16 := SP.out _ (Below.refl _ _); go_simp)
        refine hK.out _ _ ?_ (fun hHeld => ?_)
        · exact hS16
        clear hK K
        try simp only [Act.put, List.setIfInBounds_toArray, List.set_cons_zero, List.set_cons_succ]
        refine held_take (i := 17) (v := ?_) rfl (by kernel_rfl) (by kernel_rfl) (by kernel_rfl) (fun _ _ _ h => h) (by rfl) hHeld ?y7_17 ?_
        case y7_17 => (intro w hSw; (try dsimp only at hSw); go_simp; try with_reducible rfl)
        try simp only [Act.put, List.setIfInBounds_toArray, List.set_cons_zero, List.set_cons_succ]
        refine wpAnyH_done (by kernel_rfl) ?_ _
        refine NoPanic.normal ?_
        obtain ⟨hd, hbe⟩ := SE.out _ (Below.refl _ _)
        have HD := Lib.hid hd
        have HBE := Lib.hid hbe
        clear hd hbe
        go_wp2_with fail
        refine bodyPost_ret (record_results _ b0 _ rfl rfl _ (cells_blk HD.out 0 _ rfl) (cells_blk HD.out 1 _ rfl) (cells_blk HD.out 2 _ rfl)) rfl ?_
        exact ⟨⟨k, s, t⟩, by rw [HI.out]; rfl, HJ.out, by rw [hb0]; exact HBE.out⟩
    · have h1' : (e1 == 0) = false := by rw [beq_eq_false_iff_ne]; exact h1
      have HI : Hid ((recOf (k :: bs)).isSome = false) := Lib.hid (by rw [HRO.out, if_neg (fun h => h1 h.1)]; rfl)
      have HJ : Hid (∀ r', recOf (k :: bs) = some r' → (⟨k, s, t⟩ : Rc) = r') := Lib.hid (fun r' h => by rw [HRO.out, if_neg (fun h => h1 h.1)] at h; cases h)
      refine wp_region_noPanic ?_
      refine wp_region_held_drew (S := fun W => W.cell? ⟨rb, 0, none⟩ = some (.int .u8 k) ∧ W.cell? ⟨rb, 1, none⟩ = some (.string s) ∧ W.cell? ⟨rb, 2, none⟩ = some (.string t)) (by kernel_rfl) (by rw [hY]; exact SS.out _ (Below.refl _ _)) (fun hHeld => ?_)
      rw [hY] at hHeld ⊢
      clear hY
      refine held_take (i := 0) (v := ?_) rfl (by kernel_rfl) (by kernel_rfl) (by kernel_rfl) (fun _ _ _ h => h) (by rfl) hHeld ?y7_0 ?_
      case y7_0 => (intro w hSw; (try dsimp only at hSw); go_simp; try with_reducible rfl)
      try simp only [Act.put, List.setIfInBounds_toArray, List.set_cons_zero, List.set_cons_succ]
      refine held_take (i := 1) (v := ?_) rfl (by kernel_rfl) (by kernel_rfl) (by kernel_rfl) (fun _ _ _ h => h) (by rfl) hHeld ?y7_1 ?_
      case y7_1 => (intro w hSw; (try dsimp only at hSw); go_simp; try with_reducible rfl)
      try simp only [Act.put, List.setIfInBounds_toArray, List.set_cons_zero, List.set_cons_succ]
      refine held_take (i := 2) (v := ?_) rfl (by kernel_rfl) (by kernel_rfl) (by kernel_rfl) (fun _ _ _ h => h) (by rfl) hHeld ?y7_2 ?_
      case y7_2 => (intro w hSw; (try dsimp only at hSw); go_simp; try with_reducible rfl)
      try simp only [Act.put, List.setIfInBounds_toArray, List.set_cons_zero, List.set_cons_succ]
      refine held_take (i := 3) (v := ?_) rfl (by kernel_rfl) (by kernel_rfl) (by kernel_rfl) (fun _ _ _ h => h) (by rfl) hHeld ?y7_3 ?_
      case y7_3 => (intro w hSw; (try dsimp only at hSw); go_simp; try with_reducible rfl)
      try simp only [Act.put, List.setIfInBounds_toArray, List.set_cons_zero, List.set_cons_succ]
      refine held_off (i := 4) rfl (by kernel_rfl) (by kernel_rfl) (by kernel_rfl) (fun _ _ _ h => h) (by rfl) hHeld ?_
      try simp only [Act.put, List.setIfInBounds_toArray, List.set_cons_zero, List.set_cons_succ]
      refine held_off (i := 5) rfl (by kernel_rfl) (by kernel_rfl) (by kernel_rfl) (fun _ _ _ h => h) (by rfl) hHeld ?_
      try simp only [Act.put, List.setIfInBounds_toArray, List.set_cons_zero, List.set_cons_succ]
      refine held_take (i := 6) (v := ?_) rfl (by kernel_rfl) (by kernel_rfl) (by kernel_rfl) (fun _ _ _ h => h) (by rfl) hHeld ?y7_6 ?_
      case y7_6 => (intro w hSw; (try dsimp only at hSw); go_simp; try with_reducible rfl)
      try simp only [Act.put, List.setIfInBounds_toArray, List.set_cons_zero, List.set_cons_succ]
      refine held_take (i := 7) (v := ?_) rfl (by kernel_rfl) (by kernel_rfl) (by kernel_rfl) (fun _ _ _ h => h) (by rfl) hHeld ?y7_7 ?_
      case y7_7 => (intro w hSw; (try dsimp only at hSw); go_simp; try with_reducible rfl)
      try simp only [Act.put, List.setIfInBounds_toArray, List.set_cons_zero, List.set_cons_succ]
      refine held_off (i := 8) rfl (by kernel_rfl) (by kernel_rfl) (by kernel_rfl) (fun _ _ _ h => h) (by rfl) hHeld ?_
      try simp only [Act.put, List.setIfInBounds_toArray, List.set_cons_zero, List.set_cons_succ]
      refine held_off (i := 9) rfl (by kernel_rfl) (by kernel_rfl) (by kernel_rfl) (fun _ _ _ h => h) (by rfl) hHeld ?_
      try simp only [Act.put, List.setIfInBounds_toArray, List.set_cons_zero, List.set_cons_succ]
      refine held_off (i := 10) rfl (by kernel_rfl) (by kernel_rfl) (by kernel_rfl) (fun _ _ _ h => h) (by rfl) hHeld ?_
      try simp only [Act.put, List.setIfInBounds_toArray, List.set_cons_zero, List.set_cons_succ]
      refine held_take (i := 11) (v := ?_) rfl (by kernel_rfl) (by kernel_rfl) (by kernel_rfl) (fun _ _ _ h => h) (by rfl) hHeld ?y7_11 ?_
      case y7_11 => (intro w hSw; (try dsimp only at hSw); go_simp; try with_reducible rfl)
      try simp only [Act.put, List.setIfInBounds_toArray, List.set_cons_zero, List.set_cons_succ]
      refine held_take (i := 12) (v := ?_) rfl (by kernel_rfl) (by kernel_rfl) (by kernel_rfl) (fun _ _ _ h => h) (by rfl) hHeld ?y7_12 ?_
      case y7_12 => (intro w hSw; (try dsimp only at hSw); go_simp; try with_reducible rfl)
      try simp only [Act.put, List.setIfInBounds_toArray, List.set_cons_zero, List.set_cons_succ]
      refine held_off (i := 13) rfl (by kernel_rfl) (by kernel_rfl) (by kernel_rfl) (fun _ _ _ h => h) (by rfl) hHeld ?_
      try simp only [Act.put, List.setIfInBounds_toArray, List.set_cons_zero, List.set_cons_succ]
      refine held_off (i := 14) rfl (by kernel_rfl) (by kernel_rfl) (by kernel_rfl) (fun _ _ _ h => h) (by rfl) hHeld ?_
      try simp only [Act.put, List.setIfInBounds_toArray, List.set_cons_zero, List.set_cons_succ]
      refine held_take (i := 15) (v := ?_) rfl (by kernel_rfl) (by kernel_rfl) (by kernel_rfl) (fun _ _ _ h => h) (by rfl) hHeld ?y7_15 ?_
      case y7_15 => (intro w hSw; (try dsimp only at hSw); go_simp; try with_reducible rfl)
      try simp only [Act.put, List.setIfInBounds_toArray, List.set_cons_zero, List.set_cons_succ]
      refine held_one (i := 16) (by kernel_rfl) rfl (fun K hK => ?_)
      (obtain ⟨z0, y0, z1, y1, z2, y2⟩ := ZZ.out _ (Below.refl _ _); have hS16 := SP.out _ (Below.refl _ _); go_simp)
      refine hK.out _ _ ?_ (fun hHeld => ?_)
      · exact hS16
      clear hK K
      try simp only [Act.put, List.setIfInBounds_toArray, List.set_cons_zero, List.set_cons_succ]
      refine held_take (i := 17) (v := ?_) rfl (by kernel_rfl) (by kernel_rfl) (by kernel_rfl) (fun _ _ _ h => h) (by rfl) hHeld ?y7_17 ?_
      case y7_17 => (intro w hSw; (try dsimp only at hSw); go_simp; try with_reducible rfl)
      try simp only [Act.put, List.setIfInBounds_toArray, List.set_cons_zero, List.set_cons_succ]
      refine wpAnyH_done (by kernel_rfl) ?_ _
      refine NoPanic.normal ?_
      obtain ⟨hd, hbe⟩ := SE.out _ (Below.refl _ _)
      have HD := Lib.hid hd
      have HBE := Lib.hid hbe
      clear hd hbe
      go_wp2_with fail
      refine bodyPost_ret (record_results _ b0 _ rfl rfl _ (cells_blk HD.out 0 _ rfl) (cells_blk HD.out 1 _ rfl) (cells_blk HD.out 2 _ rfl)) rfl ?_
      exact ⟨⟨k, s, t⟩, by rw [HI.out]; rfl, HJ.out, by rw [hb0]; exact HBE.out⟩
end Go.Proofs.Ytmdecbockpgagaa
