import Derived.Test.YthgjpppbpgndcaaGreatDoorChainDel
/- chain.Under. -/
namespace Go.Proofs.YthgjpppbpgndcaaGreatDoor
open Go.RowKit Go.Maps Go.Shelf Go.Proofs.YthgjpppbpgndcaaGreatDoorW.PrintWords Go.Proofs.YthgjpppbpgndcaaGreatDoorW.PrintMore
variable {B p : Nat} {w0 w w' : World} {F : FM}

def underP (F : FM) (t o : Nm) : Bool := decide (o = t) || !decide (t ∈ (chainF F o).1)
theorem underF_is (F : FM) (t : Nm) : underF F t = (F.map (·.1)).filter fun o => !underP F t o := rfl
theorem chainN_len (F : FM) : ∀ (n : Nat) (out : List Nm) (q : Nm), out.length ≤ 6 → (chainN F n out q).1.length ≤ 7
  | 0, _, _, _ => by simp [chainN]
  | n + 1, out, q, h => by
    unfold chainN
    split
    · simp
    · split
      · simp
      · split
        · simp
        · split
          · exact chainN_len F n _ _ (by simp; omega)
          · simp; omega
theorem chainF_len (F : FM) (q : Nm) : (chainF F q).1.length ≤ 7 := chainN_len F 7 [] q (by simp)
set_option maxRecDepth 100000 in
set_option maxHeartbeats 4000000 in
theorem under1 (h : Ft B p w0 F w) (o t : Nm) (ho : o.length ≤ 1000000) {bf bt : Nat} (hf : Boxed w bf 24 (pv p)) (ht : Boxed w bt 9 (.string (S t))) :
    Calls Tryz.prog 22 #[.string (S o), .pointer (some ⟨bf, 0, none⟩), .pointer (some ⟨bt, 0, none⟩)] w fun e w' => e = .returned (.bool (underP F t o)) ∧ Below w.heap.size w w' := by
  have HC := Lib.hid (chain_chain h o ho)
  have hl := chainF_len F o
  have cf := hf.cell
  have hr := S_eq o t
  have HT := Lib.hid ht
  unfold underP
  clear hf ht h
  generalize chainF F o = r at *
  obtain ⟨l, er⟩ := r
  dsimp only at HC hl ⊢
  obtain ⟨res, hres⟩ : ∃ res, (decide (o = t) || !decide (t ∈ l)) = res := ⟨_, rfl⟩
  have HE := Lib.hid hres
  rw [hres]
  clear hres
  go_enter Tryz.func22, Tryz.ntmps22
  go_wp2_with fail
  refine HC.out.mono ?_
  rintro e w1 ⟨v, rfl, hown, hb⟩
  have HB := Lib.hid hb
  have HK := Lib.hid (lib_has _ _ l t (by omega) _ hown)
  have ct := (show Boxed w1 bt 9 (.string (S t)) from (hb.block _ HT.out.lt).trans HT.out).cell
  clear hb hown HC
  by_cases hot : o = t
  · rw [decide_eq_true hot] at hr HE
    clear hot
    go_wp2_with fail
    go_ret
    rw [← HE.out]
    exact ⟨rfl, HB.out⟩
  · rw [decide_eq_false hot] at hr HE
    clear hot
    by_cases hin : t ∈ l
    · rw [decide_eq_true hin] at HK HE
      clear hin
      go_wp2_with fail
      refine HK.out.mono ?_
      rintro e w2 ⟨rfl, rfl⟩
      go_wp2_with fail
      go_ret
      rw [← HE.out]
      exact ⟨rfl, HB.out⟩
    · rw [decide_eq_false hin] at HK HE
      clear hin
      go_wp2_with fail
      refine HK.out.mono ?_
      rintro e w2 ⟨rfl, rfl⟩
      go_wp2_with fail
      go_ret
      rw [← HE.out]
      exact ⟨rfl, HB.out⟩
set_option maxRecDepth 100000 in
set_option maxHeartbeats 4000000 in
theorem chain_under (h : Ft B p w0 F w) (t : Nm) :
    Calls Tryz.prog 9 #[pv p, .string (S t)] w fun e w' => ∃ v, e = .returned v ∧ OwnS w' w.heap.size v (underF F t) ∧ Below w.heap.size w w' := by
  rw [underF_is]
  have b0 := Boxed.new w 24 (pv p)
  have b1 := Boxed.new (w.alloc (.cells #[pv p] 24)) 9 (.string (S t))
  rw [World.size_alloc] at b1
  have b0' := b0.alloc (.cells #[.string (S t)] 9)
  have hB2 : Below w.heap.size w ((w.alloc (.cells #[pv p] 24)).alloc (.cells #[.string (S t)] 9)) := ((Below.refl _ w).alloc (Nat.le_refl _) _).alloc (by simp) _
  have hh := h.below hB2
  have hkl : (F.map (·.1)).length ≤ 1000000 := by rw [List.length_map]; have := h.many; omega
  have hkn : ∀ x ∈ F.map (·.1), x.length ≤ 1000000 := fun x hx => by
    obtain ⟨y, hy, rfl⟩ := List.mem_map.1 hx
    have := (h.small y hy).1
    omega
  obtain ⟨W, hW⟩ : ∃ W, (w.alloc (.cells #[pv p] 24)).alloc (.cells #[.string (S t)] 9) = W := ⟨_, rfl⟩
  have c0 := b0'.cell
  rw [hW] at b0' b1 hB2 hh
  have HW := Lib.hid hW
  have HA := Lib.hid (chain_all hh)
  have HS : Hid (Says W.heap.size W 22 #[.pointer (some ⟨w.heap.size, 0, none⟩), .pointer (some ⟨w.heap.size + 1, 0, none⟩)] (F.map (·.1)) (underP F t)) := Lib.hid (fun x hx X hb =>
    under1 (hh.below hb) x t (hkn x hx) ((hb.block _ b0'.lt).trans b0') ((hb.block _ b1.lt).trans b1))
  have HB2 := Lib.hid hB2
  clear b0 b0' b1 hh h hW hkn hB2
  generalize F.map (·.1) = ks at *
  generalize underP F t = pr at *
  go_enter Tryz.func9, Tryz.ntmps9
  go_wp2_with fail
  rw [HW.out]
  refine HA.out.mono ?_
  rintro e w1 ⟨v, rfl, ho, hb⟩
  have HD := Lib.hid (lib_deleteF (enters_of Tryz.func22 (by kernel_rfl) rfl) HS.out hb.size hb ho hkl)
  clear ho hb HA
  go_wp2_with fail
  refine HD.out.mono ?_
  rintro e w2 ⟨v2, rfl, ho, hb⟩
  have HO := Lib.hid ho
  have HB := Lib.hid hb
  clear ho hb HD
  go_wp2_with fail
  go_ret
  exact ⟨_, rfl, (own_weaken HO.out HB2.out.size : OwnS w2 w.heap.size v2 _), HB2.out.trans (HB.out.mono HB2.out.size)⟩
end Go.Proofs.YthgjpppbpgndcaaGreatDoor
