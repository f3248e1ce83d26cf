import Derived.Test.YthgjpppbpgndcaaGreatDoorChainCalls
import Derived.Carry
import Derived.Test.YthgjpppbpgndcaaGreatDoorIter
/- chain: New, get, Has, Set, Drop, All. -/
namespace Go.Proofs.YthgjpppbpgndcaaGreatDoor
open Go.RowKit Go.Maps Go.Shelf Go.Proofs.YthgjpppbpgndcaaGreatDoorW.PrintWords Go.Proofs.YthgjpppbpgndcaaGreatDoorW.PrintMore
variable {B p : Nat} {w0 w w' : World} {F : FM}

theorem lk_none {F : FM} {s : Nm} (h : (flk F s).isSome = false) : (flk F s).getD [] = [] := by
  cases hf : flk F s with
  | none => rfl
  | some x => rw [hf] at h; cases h
set_option maxHeartbeats 1000000 in
theorem chain_get {mb : Nat} (hm : FSM w mb F) (s : List UInt8) (hs : s.length ≤ 140737488351232) :
    Calls Tryz.prog 26 #[.agg #[.map (some mb)], .string (S s)] w fun e w' => e = .returned (.tuple #[.string (S ((flk F s).getD [])), .bool (flk F s).isSome]) ∧ Below w.heap.size w w' := by
  have hB := (Below.refl w.heap.size w).alloc (Nat.le_refl _) (.cells #[.map (some mb)] 48)
  have hl := (hm.below hB).look s hs
  have HB := Lib.hid hB
  generalize (flk F s).getD [] = v at *
  generalize (flk F s).isSome = ok at *
  clear hm hB
  go_enter Tryz.func26, Tryz.ntmps26
  go_wp2_with fail
  go_ret2
  exact ⟨rfl, HB.out⟩
set_option maxHeartbeats 1000000 in
theorem chain_has (h : Ft B p w0 F w) (s : List UInt8) (hs : s.length ≤ 140737488351232) :
    Calls Tryz.prog 13 #[pv p, .string (S s)] w fun e w' => e = .returned (.bool (flk F s).isSome) ∧ Below w.heap.size w w' := by
  obtain ⟨mb, hc, hm, -⟩ := h.at_
  have c0 := cell_blk hc 0 _ rfl
  have HG := Lib.hid (chain_get hm s hs)
  clear hc hm h
  go_enter Tryz.func13, Tryz.ntmps13
  go_wp2_with fail
  refine HG.out.mono ?_
  rintro e w1 ⟨rfl, hb⟩
  have HB := Lib.hid hb
  clear hb HG
  go_wp2_with fail
  go_ret
  exact ⟨rfl, HB.out⟩
theorem fins_mem {x y : Nm × Nm} : ∀ {m : FM}, y ∈ fins x m → y = x ∨ y ∈ m
  | [], h => by
    rcases List.mem_singleton.1 h with rfl
    exact .inl rfl
  | z :: r, h => by
    unfold fins at h
    split at h
    · exact List.mem_cons.1 h
    · rcases List.mem_cons.1 h with rfl | h
      · exact .inr List.mem_cons_self
      · rcases fins_mem h with h | h
        · exact .inl h
        · exact .inr (List.mem_cons_of_mem _ h)
theorem fdel_mem {m : FM} {k : Nm} {y : Nm × Nm} (h : y ∈ fdel m k) : y ∈ m := (List.mem_filter.1 h).1
theorem fput_mem {m : FM} {k v : Nm} {y : Nm × Nm} (h : y ∈ fput m k v) : y = (k, v) ∨ y ∈ m := (fins_mem h).imp id fdel_mem
theorem fins_len (x : Nm × Nm) : ∀ (m : FM), (fins x m).length = m.length + 1
  | [] => rfl
  | y :: r => by
    unfold fins
    split
    · rfl
    · rw [List.length_cons, fins_len x r]; rfl
theorem fdel_len_le (m : FM) (s : Nm) : (fdel m s).length ≤ m.length := List.length_filter_le _ _
theorem fput_len_le (m : FM) (s t : Nm) : (fput m s t).length ≤ m.length + 1 := by
  unfold fput
  rw [fins_len]
  have := fdel_len_le m s
  omega
/-- The map has turned. -/
theorem Ft.turned {mb : Nat} {F' : FM} (h : Ft B p w0 F w) (hc : w.heap[p]? = some (.cells #[.map (some mb)] 50 (0, 0))) (hm : FSM w mb F) (hl : B ≤ mb) (hm' : FSM w' mb F') (hg : w.grownBy w' (some mb)) (hs : ∀ q ∈ F', q.1.length ≤ 100 ∧ q.2.length ≤ 100) (hn : F'.length ≤ 100000)
    (hML : ∀ k, (∃ m, w.cell? ⟨k, 0, none⟩ = some (.int .i64 m)) → k ≠ mb) : Ft B p w0 F' w' := by
  have hpm : p ≠ mb := by
    obtain ⟨es, clock, hb, -⟩ := hm
    intro e
    rw [← e, hc] at hb
    cases hb
  have hp' : w'.heap[p]? = w.heap[p]? := hg.block p h.p_lt (fun e => hpm (by injection e))
  refine ⟨⟨mb, hp'.trans hc, hm', hl⟩, h.lo, hs, hn, ?_, h.mlb, h.bel.trans ⟨hg.os, hg.tape, hg.output, hg.size, fun k hk => hg.block k (by have := h.base; omega) (fun e => by injection e with e; omega)⟩⟩
  obtain ⟨m, hmm⟩ := h.ml
  exact ⟨m, hg.cell hmm (fun e => hML _ ⟨m, hmm⟩ (by injection e))⟩
theorem ml_ne {mb : Nat} (hm : FSM w mb F) : ∀ k, (∃ m, w.cell? ⟨k, 0, none⟩ = some (.int .i64 m)) → k ≠ mb := by
  rintro k ⟨m, hk⟩ rfl
  obtain ⟨es, clock, hb, -⟩ := hm
  unfold World.cell? at hk
  rw [hb] at hk
  cases hk
/-- Cells lie as they lay. -/
abbrev CellsKept (w w' : World) : Prop := Turn 0 (fun _ => False) w w'
theorem CellsKept.of_below (h : Below w.heap.size w w') : CellsKept w w' := Turn.of_below 0 _ h
theorem CellsKept.row {base : Nat} {e : TypeId} {size : Nat} {v : Value} {n : Nat} {xs : List Value} (t : CellsKept w w') (h : w.ownsRow base e size v n xs) : w'.ownsRow base e size v n xs := Turn.row t h (fun _ _ h => h)
theorem FSM.calm {mb : Nat} (hm : FSM w mb F) (hg : w.grownBy w' (some mb)) : CellsKept w w' :=
  ⟨hg.os, hg.tape, hg.output, hg.size, fun k o hk _ hc => by
    have hne : k ≠ mb := by
      rintro rfl
      obtain ⟨es, clock, hb, -⟩ := hm
      rw [hk] at hb
      rcases hc with hc | hc
      · omega
      · cases hb
        cases hc
    exact (hg.block k (Array.getElem?_eq_some_iff.1 hk).1 (fun e => hne (by injection e))).trans hk⟩
theorem setF_yes {t q : Nm} (h : isC t = true) (h2 : q = [] ∨ isC q = true) : setF F t q = (0, fput F t q) := if_pos ⟨h, h2⟩
theorem setF_no {t q : Nm} (h : ¬ (isC t = true ∧ (q = [] ∨ isC q = true))) : setF F t q = (100, F) := if_neg h
theorem chain_put (h : Ft B p w0 F w) {t q : Nm} (ht : isC t = true) (hq : q = [] ∨ isC q = true) (hn : F.length < 100000) :
    ∃ mb w', w.cell? ⟨p, 0, none⟩ = some (.map (some mb)) ∧ (Instr.mapUpdate TMF (.map (some mb)) (.string (S t)) (.string (S q))).run Tryz.prog w = .ok () w' ∧ Ft B p w0 (fput F t q) w' ∧ CellsKept w w' := by
  obtain ⟨mb, hc, hm, hl⟩ := h.at_
  have l1 := isC_len ht
  have l2 : q.length ≤ 40 := by
    rcases hq with rfl | hq
    · simp
    · exact isC_len hq
  obtain ⟨w', hr, hm', htn⟩ := hm.put (by omega) t q (by omega) (by omega)
  refine ⟨mb, w', cell_blk hc 0 _ rfl, hr, h.turned hc hm hl hm' htn.grown (fun y hy => ?_) ?_ (ml_ne hm), hm.calm htn.grown⟩
  · rcases fput_mem hy with rfl | hy
    · exact ⟨by dsimp only; omega, by dsimp only; omega⟩
    · exact h.small y hy
  · have := fput_len_le F t q
    omega
theorem S_nil_is (s : Nm) : ((S s).toList == []) = decide (s = []) := by
  have := S_eq s []
  rwa [show (S []).toList = [] from by first | rfl | decide +kernel] at this

set_option maxHeartbeats 1000000 in
theorem chain_set (h : Ft B p w0 F w) (t q : Nm) (_ht : t.length ≤ 140737488351232) (_hq : q.length ≤ 140737488351232) (hn : F.length < 100000) :
    Calls Tryz.prog 7 #[pv p, .string (S t), .string (S q)] w fun e w' => e = .returned (.int .i64 (setF F t q).1) ∧ Ft B p w0 (setF F t q).2 w' ∧ CellsKept w w' := by
  have HH := Lib.hid h
  have K1 := Lib.hid (tag_is t w h.ml)
  have hr := S_nil_is q
  obtain ⟨ok, hok⟩ : ∃ ok, isC t = ok := ⟨_, rfl⟩
  have HOK := Lib.hid hok
  rw [hok] at K1
  clear h hok
  go_enter Tryz.func7, Tryz.ntmps7
  go_wp2_with fail
  refine K1.out.mono ?_
  rintro e w1 ⟨rfl, hb⟩
  have HF1 := Lib.hid (HH.out.below hb)
  have HC1 := Lib.hid (CellsKept.of_below hb)
  clear hb K1
  cases ok with
  | false =>
    have HE := Lib.hid (setF_no (F := F) (t := t) (q := q) (fun hh => by rw [HOK.out] at hh; exact absurd hh.1 (by decide)))
    go_wp2_with fail
    go_ret
    rw [HE.out]
    exact ⟨rfl, HF1.out, HC1.out⟩
  | true =>
    by_cases hq0 : q = []
    · rw [decide_eq_true hq0] at hr
      have HE := Lib.hid (setF_yes (F := F) HOK.out (.inl hq0))
      obtain ⟨mb, w2, hc, hrun, hf, hcm⟩ := chain_put HF1.out HOK.out (.inl hq0) hn
      have HC2 := Lib.hid (HC1.out.trans hcm)
      have HF2 := Lib.hid hf
      clear hq0 hf hcm
      go_wp2_with fail
      go_ret
      rw [HE.out]
      exact ⟨rfl, HF2.out, HC2.out⟩
    · rw [decide_eq_false hq0] at hr
      have K2 := Lib.hid (tag_is q w1 HF1.out.ml)
      obtain ⟨ok2, hok2⟩ : ∃ ok, isC q = ok := ⟨_, rfl⟩
      have HOK2 := Lib.hid hok2
      rw [hok2] at K2
      have HQ0 := Lib.hid hq0
      clear hok2 hq0
      go_wp2_with fail
      refine K2.out.mono ?_
      rintro e w2 ⟨rfl, hb⟩
      have HF2 := Lib.hid (HF1.out.below hb)
      have HC2 := Lib.hid (HC1.out.trans (CellsKept.of_below hb))
      clear hb K2
      cases ok2 with
      | false =>
        have HE := Lib.hid (setF_no (F := F) (t := t) (q := q) (fun hh => by
          rcases hh.2 with h | h
          · exact HQ0.out h
          · rw [HOK2.out] at h; exact absurd h (by decide)))
        go_wp2_with fail
        go_ret
        rw [HE.out]
        exact ⟨rfl, HF2.out, HC2.out⟩
      | true =>
        have HE := Lib.hid (setF_yes (F := F) HOK.out (.inr HOK2.out))
        obtain ⟨mb, w3, hc, hrun, hf, hcm⟩ := chain_put HF2.out HOK.out (.inr HOK2.out) hn
        have HC3 := Lib.hid (HC2.out.trans hcm)
        have HF3 := Lib.hid hf
        clear hf hcm
        go_wp2_with fail
        go_ret
        rw [HE.out]
        exact ⟨rfl, HF3.out, HC3.out⟩
end Go.Proofs.YthgjpppbpgndcaaGreatDoor
