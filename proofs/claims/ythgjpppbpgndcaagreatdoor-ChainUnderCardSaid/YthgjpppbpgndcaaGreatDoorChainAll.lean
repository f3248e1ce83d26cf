import Derived.Test.YthgjpppbpgndcaaGreatDoorChainSet
/- chain: New, Drop, All. -/
namespace Go.Proofs.YthgjpppbpgndcaaGreatDoor
open Go.RowKit Go.Maps Go.Shelf Go.Proofs.YthgjpppbpgndcaaGreatDoorW.PrintWords Go.Proofs.YthgjpppbpgndcaaGreatDoorW.PrintMore
variable {B p : Nat} {w0 w w' : World} {F : FM}

theorem ml_lt {w : World} (h : ML w) : 1 < w.heap.size := by
  obtain ⟨m, hm⟩ := h
  unfold World.cell? at hm
  split at hm
  · rename_i hh
    exact (Array.getElem?_eq_some_iff.1 hh).1
  · cases hm
set_option maxHeartbeats 1000000 in
theorem chain_new (w : World) (hM : ML w) : Calls Tryz.prog 6 #[] w fun e w' => ∃ p, e = .returned (pv p) ∧ Ft w.heap.size p w [] w' := by
  have hmk := fun W => run_makeMap (P := Tryz.prog) 46 W
  have HM := Lib.hid hM
  go_enter Tryz.func6, Tryz.ntmps6
  go_wp2_with fail
  go_ret
  have hb1 : Below w.heap.size w (w.alloc (.map #[] 0)) := (Below.refl _ w).alloc (Nat.le_refl _) _
  have hb2 : Below w.heap.size w ((w.alloc (.map #[] 0)).alloc (.cells #[.map (some w.heap.size)] 50)) := hb1.alloc (by simp) _
  refine ⟨_, rfl, ⟨w.heap.size, ?_, ?_, Nat.le_refl _⟩, by simp, fun _ h => (by cases h), by simp, HM.out.below hb2, ml_lt HM.out, hb2⟩
  · rw [← World.size_alloc w (.map #[] 0)]
    exact World.alloc_heap_new _ _
  · exact (FSM.made w).below ((Below.refl _ _).alloc (Nat.le_refl _) _)
set_option maxHeartbeats 1000000 in
theorem chain_drop (h : Ft B p w0 F w) (t : Nm) (ht : t.length ≤ 140737488351232) :
    Calls Tryz.prog 12 #[pv p, .string (S t)] w fun e w' => e = .returned (.int .i64 (dropF F t).1) ∧ Ft B p w0 (dropF F t).2 w' ∧ CellsKept w w' := by
  have HH := Lib.hid h
  have K1 := Lib.hid (chain_has h t ht)
  unfold dropF
  generalize (flk F t).isSome = ok at *
  clear h
  cases ok with
  | false =>
    go_enter Tryz.func12, Tryz.ntmps12
    go_wp2_with fail
    refine K1.out.mono ?_
    rintro e w1 ⟨rfl, hb⟩
    have HF1 := Lib.hid (HH.out.below hb)
    have HC1 := Lib.hid (CellsKept.of_below hb)
    clear hb K1
    go_wp2_with fail
    go_ret
    exact ⟨rfl, HF1.out, HC1.out⟩
  | true =>
    go_enter Tryz.func12, Tryz.ntmps12
    go_wp2_with fail
    refine K1.out.mono ?_
    rintro e w1 ⟨rfl, hb⟩
    have HF1 := Lib.hid (HH.out.below hb)
    have HC1 := Lib.hid (CellsKept.of_below hb)
    clear hb K1 HH
    obtain ⟨mb, hc, hm, hl⟩ := HF1.out.at_
    have c0 := cell_blk hc 0 _ rfl
    obtain ⟨w2, hrun, hf, hcm⟩ : ∃ w2, (∀ ty, (Builtin.delete_ #[TMF, 9] ty #[.map (some mb), .string (S t)]).run Tryz.prog w1 = .ok (.tuple #[]) w2) ∧ Ft B p w0 (fdel F t) w2 ∧ CellsKept w1 w2 := by
      obtain ⟨w2, hr, hm2, htn⟩ := hm.del t ht 0
      refine ⟨w2, fun ty => hr, HF1.out.turned hc hm hl hm2 htn.grown (fun y hy => HF1.out.small y (fdel_mem hy)) ?_ (ml_ne hm), hm.calm htn.grown⟩
      exact Nat.le_trans (fdel_len_le F t) HF1.out.many
    have HF2 := Lib.hid hf
    have HC2 := Lib.hid (HC1.out.trans hcm)
    clear hc hm hf hcm
    go_wp2_with fail
    go_ret
    exact ⟨rfl, HF2.out, HC2.out⟩
theorem fk_len (F : FM) : (F.map (·.1)).length = F.length := List.length_map ..
theorem lib_sorted' (b : Nat) (m : FM) (w : World) (h : FSM w b m) (hl : m.length ≤ 1000000) :
    Calls Tryz.prog 19 #[.func (.func 37) #[] #[.pointer (some ⟨w.heap.size, 0, none⟩)]] (w.alloc (.cells #[.map (some b)] TMF)) fun e w' =>
      ∃ v, e = .returned v ∧ OwnS w' (w.heap.size + 1) v (m.map (·.1)) ∧ Below w.heap.size w w' := by
  have hs := toF_size m
  refine (callsIn_wide.1 (lib_sorted b m.length (toF m) RF w h (by rw [hs]; unfold maxLen; omega) (by rw [hs]; omega))).mono ?_
  rintro e w' ⟨v, ss, rfl, hp, ho, -, hb⟩
  have hk := h.keys hp
  have hsz : (w.alloc (.cells #[.map (some b)] TMF)).heap.size = w.heap.size + 1 := by simp
  have hlen : ss.length = (m.map (·.1)).length := by rw [← hk, List.length_mergeSort]
  rw [hk, hlen, hsz] at ho
  refine ⟨v, rfl, ho, ?_⟩
  exact ((Below.refl _ w).alloc (Nat.le_refl _) _).trans (hb.mono (by rw [hsz]; omega))
theorem lib_keys' (mb : Option Nat) (W : World) : Calls Tryz.prog 20 #[.map mb] W fun e w' => e = .returned (.func (.func 37) #[] #[.pointer (some ⟨W.heap.size, 0, none⟩)]) ∧ w' = W.alloc (.cells #[.map mb] TMF) :=
  callsIn_wide.1 (lib_keys mb W)
set_option maxHeartbeats 1000000 in
theorem chain_all (h : Ft B p w0 F w) :
    Calls Tryz.prog 8 #[pv p] w fun e w' => ∃ v, e = .returned v ∧ OwnS w' w.heap.size v (F.map (·.1)) ∧ Below w.heap.size w w' := by
  obtain ⟨mb, hc, hm, -⟩ := h.at_
  have c0 := cell_blk hc 0 _ rfl
  have hn := h.many
  have HK := Lib.hid (lib_keys' (some mb) w)
  have HS := Lib.hid (lib_sorted' mb F w hm (by omega))
  clear hc hm h hn
  generalize F.map (·.1) = ks at *
  go_enter Tryz.func8, Tryz.ntmps8
  go_wp2_with fail
  refine HK.out.mono ?_
  rintro e w1 ⟨rfl, rfl⟩
  go_wp2_with fail
  refine HS.out.mono ?_
  rintro e w2 ⟨v, rfl, ho, hb⟩
  have HO := Lib.hid ((own_weaken ho (Nat.le_succ _) : OwnS w2 w.heap.size v ks))
  have HB := Lib.hid hb
  clear ho hb HK HS c0
  go_wp2_with fail
  go_ret
  exact ⟨v, rfl, HO.out, HB.out⟩
end Go.Proofs.YthgjpppbpgndcaaGreatDoor
