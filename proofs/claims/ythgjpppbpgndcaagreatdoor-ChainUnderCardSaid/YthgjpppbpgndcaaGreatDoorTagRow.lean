import Derived.Test.YthgjpppbpgndcaaGreatDoorTagSplit
/- Rows of strings; slices.Contains, strings.Join, tag.variant. -/
namespace Go.Proofs.YthgjpppbpgndcaaGreatDoor
open Go.RowKit Go.Shelf Go.Proofs.YthgjpppbpgndcaaGreatDoorW.PrintWords Go.Proofs.YthgjpppbpgndcaaGreatDoorW.PrintMore

def OwnS (w : World) (base : Nat) (v : Value) (ss : List (List UInt8)) : Prop := w.ownsRow base 9 1 v ss.length (ss.map fun s => Value.string (S s))
theorem info9 : (Tryz.prog.info? 9).map (fun i => (i.zero, i.size, i.bytes)) = some (some (.string ByteArray.empty), 1, 16) := by kernel_rfl
theorem OwnS.shape {w : World} {base : Nat} {v : Value} {ss : List (List UInt8)} (h : OwnS w base v ss) (hne : ss ≠ []) :
    ∃ g cap, v = .slice (some ⟨g, 0, none⟩) ss.length cap ∧ ss.length ≤ cap ∧ base ≤ g ∧ g < w.heap.size ∧ ∀ (j : Nat) x, ss[j]? = some x → w.cell? ⟨g, j, none⟩ = some (.string (S x)) := by
  have h' := h
  have hl := List.length_pos_iff.2 hne
  rcases h.2 with ⟨_, h0⟩ | ⟨g, cap, cur, rfl, hb, hg, hc, _, _, _⟩
  · omega
  · refine ⟨g, cap, rfl, by omega, hb, (h'.lt g rfl).2, fun j x hx => ?_⟩
    have := h'.cells rfl j (.string (S x)) (by rw [List.getElem?_map, hx]; rfl)
    rwa [add_plain] at this
theorem cut_strs (g n cap : Nat) (hn : 1 ≤ n) (hc : n ≤ cap) : ∃ A', (∀ W : World, (Instr.slice 30 (.slice (some ⟨g, 0, none⟩) n cap) (some (.int .i64 1)) none none).run Tryz.prog W = .ok (.slice A' (n - 1) (cap - 1)) W) ∧ (2 ≤ n → A' = some ⟨g, 1, none⟩) := by
  obtain ⟨i0, hi, hzz⟩ := Option.map_eq_some_iff.1 info9
  simp only [Prod.mk.injEq] at hzz
  refine ⟨if cap = 1 then some ⟨g, 0, none⟩ else (some (⟨g, 0, none⟩ : Addr)).map (·.add 1), fun W => ?_, fun h => by rw [if_neg (by omega)]; rfl⟩
  have hel : Tryz.prog.elem 30 = 9 := by simp [Program.elem, Tryz.underlying30]
  have hu : Tryz.prog.underlying 30 = some (.slice (Tryz.prog.elem 30)) := by rw [hel]; exact Tryz.underlying30
  have := run_slice_l (P := Tryz.prog) W 30 (some ⟨g, 0, none⟩) n cap hu .i64 ((1 : Nat) : Int) (by decide) (by omega)
  rw [hel] at this
  refine this.trans ?_
  simp [sizeOf, typeInfo, hi, hzz.2.1, sliced, Result.andThen]
theorem lib_contains (base : Nat) (v : Value) (out : List (List UInt8)) (t : List UInt8) (hne : out ≠ []) (hlen : out.length ≤ 1000000) (w : World) (ho : OwnS w base v out) :
    ∃ g cap A', v = .slice (some ⟨g, 0, none⟩) out.length cap ∧ (∀ W : World, (Instr.slice 30 v (some (.int .i64 1)) none none).run Tryz.prog W = .ok (.slice A' (out.length - 1) (cap - 1)) W) ∧
      ∀ w', Below w.heap.size w w' → Calls Tryz.prog 23 #[.slice A' (out.length - 1) (cap - 1), .string (S t)] w' fun e w2 => e = .returned (.bool ((out.drop 1).contains t)) ∧ w2 = w' := by
  obtain ⟨g, cap, rfl, hc, _, hg, hcell⟩ := ho.shape hne
  have hl := List.length_pos_iff.2 hne
  obtain ⟨A', hr, hA⟩ := cut_strs g out.length cap (by omega) hc
  refine ⟨g, cap, A', rfl, hr, fun w' hb => ?_⟩
  by_cases h2 : 2 ≤ out.length
  · rw [hA h2]
    have key := Any.slices_Contains_string TryzlayCont g 1 (out.length - 1) (cap - 1) ((out.drop 1).map S) (S t) w' (by simp) (by omega) (fun j hj => by
      have hj' : j < (out.drop 1).length := by simpa using hj
      have hj2 : j + 1 < out.length := by rw [List.length_drop] at hj'; omega
      have := pw_cell_below hb (hcell (j + 1) (out[j + 1]) (List.getElem?_eq_getElem hj2))
      rw [Nat.add_comm 1 j, this]
      simp [List.getD_eq_getElem?_getD, List.getElem?_eq_getElem hj2])
    refine key.mono ?_
    rintro e w2 ⟨rfl, rfl⟩
    refine ⟨?_, rfl⟩
    refine congrArg Ending.returned (congrArg Value.bool ?_)
    rw [List.take_of_length_le (by simp)]
    have h1 := Lib.containsS_iff ((out.drop 1).map S) (S t)
    cases hcc : (out.drop 1).contains t with
    | true =>
      rw [h1]
      exact List.mem_map.2 ⟨t, by simpa using hcc, rfl⟩
    | false =>
      rw [← Bool.not_eq_true, h1]
      intro hm
      obtain ⟨x, hx, he⟩ := List.mem_map.1 hm
      have := S_inj he
      subst this
      rw [← Bool.not_eq_true] at hcc
      exact hcc (by simpa using hx)
  · have h1 : out.length = 1 := by omega
    have hd : out.drop 1 = [] := List.drop_eq_nil_of_le (by omega)
    rw [h1, hd]
    exact Any.slices_Contains_string_empty TryzlayCont A' (cap - 1) (S t) w'
theorem lib_join (base : Nat) (v : Value) (out : List (List UInt8)) (hne : out ≠ []) (hlen : out.length ≤ 1000000) (hl : (joinL out).length ≤ 1000000) (w : World) (ho : OwnS w base v out) :
    Calls Tryz.prog 51 #[v, .string (S [45])] w fun e w' => e = .returned (.string (S (joinL out))) ∧ Below w.heap.size w w' := by
  obtain ⟨g, cap, rfl, hc, _, hg, hcell⟩ := ho.shape hne
  have hm : (out.map S).map (·.data.toList) = out := by
    rw [List.map_map]
    exact (List.map_congr_left (fun _ _ => rfl)).trans (List.map_id out)
  have key := Any.strings_Join TryzlayJoin TryzlayJoinX g 0 cap (out.map S) (S [45]) w (fun j x hx => by
    rw [List.getElem?_map] at hx
    cases ho : out[j]? with
    | none => rw [ho] at hx; cases hx
    | some y =>
      rw [ho] at hx
      cases hx
      rw [Nat.zero_add]
      exact hcell j y ho) hg (by simp; omega) (by simpa using hc) (by rw [hm, S_data, joinL_is]; omega)
  rw [hm, S_data, joinL_is, List.length_map] at key
  exact key

def variantB (t : List UInt8) : Bool := allP isEi 5 8 t || (allP isEi 4 4 t && isDig (t.headD 0))
theorem run_head (t : List UInt8) (h : t ≠ []) (W : World) : (Instr.index 9 (.string (S t)) (.int .i64 0)).run Tryz.prog W = .ok (.int .u8 ((t.headD 0).toNat : Int)) W := by
  have hz := S_size t
  cases t with
  | nil => exact absurd rfl h
  | cons b l =>
    have h2 : (0 : Int) < ((b :: l).length : Int) := by simp
    go_simp
    rfl
theorem tag_variant (t : List UInt8) (ht : t.length ≤ 1000000) (W : World) : Calls Tryz.prog 50 #[.string (S t)] W fun e w' => e = .returned (.bool (variantB t)) ∧ Below W.heap.size W w' := by
  have HA := Lib.hid (all_either 5 8 t ht W)
  have HA2 := Lib.hid (all_either 4 4 t ht)
  have HD := Lib.hid (tag_digit (t.headD 0))
  unfold variantB
  cases h1 : allP isEi 5 8 t with
  | true =>
    rw [h1] at HA
    go_enter Tryz.func50, Tryz.ntmps50
    go_wp2_with fail
    refine HA.out.mono ?_
    rintro e w1 ⟨rfl, hb1⟩
    go_wp2
    go_ret
    exact ⟨rfl, hb1⟩
  | false =>
    rw [h1] at HA
    cases h2 : allP isEi 4 4 t with
    | false =>
      rw [h2] at HA2
      go_enter Tryz.func50, Tryz.ntmps50
      go_wp2_with fail
      refine HA.out.mono ?_
      rintro e w1 ⟨rfl, hb1⟩
      go_wp2_with fail
      refine (HA2.out w1).mono ?_
      rintro e w2 ⟨rfl, hb2⟩
      go_wp2
      go_ret
      exact ⟨rfl, hb1.trans (hb2.mono hb1.size)⟩
    | true =>
      rw [h2] at HA2
      have hne : t ≠ [] := fun h => by subst h; exact absurd h2 (by decide)
      have hh := run_head t hne
      generalize isDig (t.headD 0) = d at HD ⊢
      generalize ((t.headD 0).toNat : Int) = x at hh HD
      clear hne
      go_enter Tryz.func50, Tryz.ntmps50
      go_wp2_with fail
      refine HA.out.mono ?_
      rintro e w1 ⟨rfl, hb1⟩
      have HB1 := Lib.hid hb1
      clear hb1
      go_wp2_with fail
      refine (HA2.out w1).mono ?_
      rintro e w2 ⟨rfl, hb2⟩
      have HB2 := Lib.hid (HB1.out.trans (hb2.mono HB1.out.size))
      clear hb2
      go_wp2_with fail
      refine (HD.out w2).mono ?_
      rintro e w3 ⟨rfl, rfl⟩
      go_wp2
      go_ret
      exact ⟨by simp, HB2.out⟩
end Go.Proofs.YthgjpppbpgndcaaGreatDoor
