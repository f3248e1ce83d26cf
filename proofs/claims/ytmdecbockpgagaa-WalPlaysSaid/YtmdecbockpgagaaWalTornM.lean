import Derived.Test.YtmdecbockpgagaaWalOpens
import Derived.Test.YtmdecbockpgagaaWalRows
import Derived.Laws.Append
/- Whatever bytes: the groups that they begin with, and their bytes. -/
namespace Go.Proofs.Ytmdecbockpgagaa
open Go.RowKit Go.Proofs.YtmdecbockpgagaaW.PrintWords Go.Proofs.YtmdecbockpgagaaW.PrintMore

theorem le_val_of {xs : List Int} {n : Int} {k : Nat} (h : By xs) (hl : xs.length = k) (hv : val xs = n) : xs = le n k := by
  refine val_inj _ _ h (le_by _ _) (by rw [hl, le_length]) ?_
  have := val_take_bd xs h k
  rw [List.take_of_length_le (by omega), hv] at this
  rw [val_le, hv]
  exact (Int.emod_eq_of_lt this.1 this.2).symm
theorem next_bytes {bs : List Int} (h : NextOk bs) (hby : By bs) : bs = frameB (nextX bs) ++ nextR bs := by
  obtain ⟨h1, h2, h3, h4⟩ := h
  have hv := val_take_bd bs hby 4
  have hl : ((nextX bs).length : Int) = val (bs.take 4) := by
    unfold nextX
    rw [List.length_take, List.length_drop]
    omega
  have e1 : bs.take 4 = le ((nextX bs).length : Int) 4 := le_val_of (hby.take _) (by rw [List.length_take]; omega) hl.symm
  have e2 : (bs.drop 4).take 4 = le ((crcMore 0#32 (le ((nextX bs).length : Int) 4 ++ nextX bs)).toNat : Int) 4 :=
    le_val_of ((hby.drop _).take _) (by rw [List.length_take, List.length_drop]; omega) (by rw [← e1]; exact h4.symm)
  have e3 : bs.drop 8 = nextX bs ++ nextR bs := by unfold nextX nextR; rw [List.take_append_drop]
  have e4 : bs.drop 4 = (bs.drop 4).take 4 ++ bs.drop 8 := by
    have := (List.take_append_drop 4 (bs.drop 4)).symm
    rwa [List.drop_drop] at this
  have e5 := (List.take_append_drop 4 bs).symm
  refine e5.trans ?_
  rw [frameB_parts, e4, e2, e3, e1]
theorem getT_inv {xs s r : List Int} {most : Int} (hby : By xs) (h : getT xs most = (s, r, 0)) : xs = le (s.length : Int) 2 ++ (s ++ r) ∧ s.length < 65536 := by
  have hv := val_take_bd xs hby 2
  unfold getT at h
  by_cases a : xs.length < 2
  · rw [if_pos a] at h; simp at h
  · rw [if_neg a] at h
    by_cases b : most < val (xs.take 2)
    · rw [if_pos b] at h; simp at h
    · rw [if_neg b] at h
      by_cases c : ((xs.drop 2).length : Int) < val (xs.take 2)
      · rw [if_pos c] at h; simp at h
      · rw [if_neg c] at h
        simp only [Prod.mk.injEq, and_true] at h
        obtain ⟨h1, h2⟩ := h
        have hl : (s.length : Int) = val (xs.take 2) := by
          rw [← h1, List.length_take]
          omega
        have e1 : xs.take 2 = le (s.length : Int) 2 := le_val_of (hby.take _) (by rw [List.length_take]; omega) hl.symm
        have e3 : xs.drop 2 = s ++ r := by rw [← h1, ← h2, List.take_append_drop]
        refine ⟨(List.take_append_drop 2 xs).symm.trans (by rw [e1, e3]), ?_⟩
        have : (2 : Int) ^ (8 * 2) = 65536 := by decide
        omega
theorem txt_of {s : List Int} (h : By s) : txt (strOfNums s) = le (s.length : Int) 2 ++ s := by
  have e := bytesOf_strOfNums h
  have : (strOfNums s).size = s.length := by
    have := bytesOf_length (strOfNums s)
    rw [e] at this
    exact this.symm
  unfold txt
  rw [e, this]
theorem recOf_inv {x : List Int} {r : Rc} (hby : By x) (h : recOf x = some r) : x = rcB r := by
  cases x with
  | nil => cases h
  | cons k b =>
    have hb : By b := fun y hy => hby y (List.mem_cons_of_mem _ hy)
    have h' : (if (getT b 40).2.2 = 0 ∧ (getT (getT b 40).2.1 2000).2.2 = 0 ∧ (getT (getT b 40).2.1 2000).2.1 = [] ∧ rightB ⟨k, strOfNums (getT b 40).1, strOfNums (getT (getT b 40).2.1 2000).1⟩ = true
      then some (⟨k, strOfNums (getT b 40).1, strOfNums (getT (getT b 40).2.1 2000).1⟩ : Rc) else none) = some r := h
    by_cases hc : (getT b 40).2.2 = 0 ∧ (getT (getT b 40).2.1 2000).2.2 = 0 ∧ (getT (getT b 40).2.1 2000).2.1 = [] ∧ rightB ⟨k, strOfNums (getT b 40).1, strOfNums (getT (getT b 40).2.1 2000).1⟩ = true
    · rw [if_pos hc] at h'
      injection h' with h'
      obtain ⟨c1, c2, c3, -⟩ := hc
      obtain ⟨s, r1, hs⟩ : ∃ s r1, getT b 40 = (s, r1, 0) := ⟨_, _, by rw [← c1]⟩
      rw [hs] at h' c2 c3
      dsimp only at h' c2 c3
      obtain ⟨e1, -⟩ := getT_inv hb hs
      have hs1 : By s := fun y hy => hb y (by rw [e1]; simp [hy])
      have hr1 : By r1 := fun y hy => hb y (by rw [e1]; simp [hy])
      obtain ⟨t, ht⟩ : ∃ t, getT r1 2000 = (t, [], 0) := ⟨_, by rw [← c2, ← c3]⟩
      rw [ht] at h'
      dsimp only at h'
      obtain ⟨e2, -⟩ := getT_inv hr1 ht
      have ht1 : By t := fun y hy => hr1 y (by rw [e2]; simp [hy])
      rw [← h']
      unfold rcB
      dsimp only
      rw [txt_of hs1, txt_of ht1, e1, e2, List.append_nil, List.append_assoc]
    · rw [if_neg hc] at h'
      cases h'
theorem allF_bytes : ∀ (n : Nat) (bs : List Int), By bs → ∃ t, bs = fcat (allF n bs) ++ t
  | 0, bs, _ => ⟨bs, rfl⟩
  | n + 1, bs, hby => by
    unfold allF
    by_cases h : NextOk bs
    · rw [if_pos h]
      obtain ⟨t, ht⟩ := allF_bytes n (nextR bs) (by unfold nextR; exact (hby.drop _).drop _)
      refine ⟨t, ?_⟩
      have e := next_bytes h hby
      show bs = frameB (nextX bs) ++ fcat (allF n (nextR bs)) ++ t
      rw [List.append_assoc, ← ht]
      exact e
    · rw [if_neg h]
      exact ⟨bs, rfl⟩
theorem allF_by : ∀ (n : Nat) (bs : List Int), By bs → ∀ x ∈ allF n bs, By x
  | 0, bs, _, x, hx => by simp [allF] at hx
  | n + 1, bs, hby, x, hx => by
    unfold allF at hx
    by_cases h : NextOk bs
    · rw [if_pos h] at hx
      rcases List.mem_cons.1 hx with rfl | hx
      · unfold nextX; exact (hby.drop _).take _
      · exact allF_by n (nextR bs) (by unfold nextR; exact (hby.drop _).drop _) x hx
    · rw [if_neg h] at hx
      simp at hx
/-- What groups are told, their bytes lie there. -/
theorem groupsF_bytes : ∀ (xs : List (List Int)) (now : List Rc) (a : Nat), (∀ x ∈ xs, By x) →
    (∃ t, fcat (now.map rcB) ++ fcat xs = catG ((groupsF xs now a).map (·.1)) ++ t) ∧ (∀ g ∈ (groupsF xs now a).map (·.1), groupB g = true) ∧
    (∀ p, (groupsF xs now a).getLast? = some p → p.2 + (fcat (now.map rcB)).length = a + (catG ((groupsF xs now a).map (·.1))).length)
  | [], now, a, _ => ⟨⟨_, rfl⟩, fun g hg => by simp [groupsF] at hg, fun p hp => by simp [groupsF] at hp⟩
  | x :: xs, now, a, hby => by
    have hx := hby x (by simp)
    have hxs : ∀ y ∈ xs, By y := fun y hy => hby y (by simp [hy])
    unfold groupsF
    cases hr : recOf x with
    | some r =>
      simp only
      have e := recOf_inv hx hr
      obtain ⟨⟨t, h1⟩, h2, h3⟩ := groupsF_bytes xs (now ++ [r]) (a + (x.length + 8)) hxs
      have e2 : fcat ((now ++ [r]).map rcB) = fcat (now.map rcB) ++ frameB x := by rw [List.map_append, fcat_append, e]; congr 1; exact fcat_one _
      refine ⟨⟨t, ?_⟩, h2, fun p hp => ?_⟩
      · rw [← h1, e2, List.append_assoc]; rfl
      · have := h3 p hp
        rw [e2, List.length_append, frameB_length] at this
        omega
    | none =>
      simp only
      by_cases hc : x = [3, (now.length : Int)] ∧ groupB now = true
      · rw [if_pos hc]
        obtain ⟨⟨t, h1⟩, h2, h3⟩ := groupsF_bytes xs [] (a + (x.length + 8)) hxs
        have e2 : encG now = fcat (now.map rcB) ++ frameB x := by rw [encG_yes hc.2, ← hc.1]
        have e3 : (encG now).length = (fcat (now.map rcB)).length + (x.length + 8) := by rw [e2, List.length_append, frameB_length]
        refine ⟨⟨t, ?_⟩, fun g hg => ?_, fun p hp => ?_⟩
        · show fcat (now.map rcB) ++ (frameB x ++ fcat xs) = (encG now ++ catG ((groupsF xs [] (a + (x.length + 8))).map (·.1))) ++ t
          rw [List.append_assoc, ← h1, e2, List.append_assoc]
          rfl
        · rcases List.mem_cons.1 hg with rfl | hg
          · exact hc.2
          · exact h2 g hg
        · show p.2 + _ = a + (encG now ++ catG ((groupsF xs [] (a + (x.length + 8))).map (·.1))).length
          rw [List.length_append, e3]
          cases hl : groupsF xs [] (a + (x.length + 8)) with
          | nil =>
            rw [hl] at hp
            simp only [List.getLast?_singleton, Option.some.injEq] at hp
            rw [← hp]
            simp [catG]
            omega
          | cons q qs =>
            rw [hl] at hp h3
            rw [List.getLast?_cons_cons] at hp
            have := h3 p hp
            simp only [List.map_nil] at this
            have h0 : (fcat ([] : List (List Int))).length = 0 := rfl
            rw [h0] at this
            omega
      · rw [if_neg hc]
        exact ⟨⟨_, rfl⟩, fun g hg => by simp at hg, fun p hp => by simp at hp⟩
/-- Whatever bytes: cut behind their last group they are the groups' bytes. -/
theorem take_end {bs : List Int} (hby : By bs) : bs.take (endOf bs) = catG (gsOf bs) ∧ (∀ g ∈ gsOf bs, groupB g = true) ∧ endOf bs ≤ bs.length := by
  obtain ⟨t, ht⟩ := allF_bytes (bs.length + 1) bs hby
  obtain ⟨⟨t2, h1⟩, h2, h3⟩ := groupsF_bytes (allB bs) [] 0 (allF_by _ bs hby)
  have h0 : fcat (([] : List Rc).map rcB) = [] := rfl
  rw [h0, List.nil_append] at h1
  have hb : bs = catG (gsOf bs) ++ (t2 ++ t) := by
    rw [← List.append_assoc]
    refine ht.trans ?_
    show fcat (allB bs) ++ t = _
    rw [h1]
    rfl
  have he : endOf bs = (catG (gsOf bs)).length := by
    unfold endOf
    cases hl : (gB bs).getLast? with
    | none =>
      have : gB bs = [] := List.getLast?_eq_none_iff.1 hl
      unfold gsOf
      rw [this]
      rfl
    | some p =>
      have := h3 p hl
      rw [h0] at this
      simp only [List.length_nil, Nat.add_zero, Nat.zero_add] at this
      exact this
  refine ⟨?_, h2, ?_⟩
  · rw [he]
    conv => lhs; arg 2; rw [hb]
    rw [List.take_append_of_le_length (Nat.le_refl _), List.take_length]
  · rw [he]
    conv => rhs; rw [hb]
    rw [List.length_append]
    omega
theorem IsLog.crash {q : Int} {st : Nat} {b : List Int} {d : DS} (h : IsLog q st b d) (cs : List Int) : d.crash cs = d := by
  obtain ⟨i, fs, rfl, hf⟩ := h
  have hp0 : ∀ c : List Int, (pick1 c 0).1 = 0 := fun c => by have := pick1_le c 0; omega
  unfold DS.crash
  simp only
  have h1 : (ld q st 0 0 i fs [(lgN, i)] []).since = [] := rfl
  rw [h1]
  simp only [List.length_nil, List.take_nil]
  have h2 : replay (ld q st 0 0 i fs [(lgN, i)] []).kept [] = some [(lgN, i)] := rfl
  rw [h2, Option.getD_some]
  have hset : fs.set i ⟨b, b.length⟩ = fs := by
    refine List.ext_getElem? (fun j => ?_)
    rw [List.getElem?_set]
    by_cases e : i = j
    · subst e
      have := (List.getElem?_eq_some_iff.1 hf).1
      simp [this]
      have h5 := (List.getElem?_eq_some_iff.1 hf).2
      exact h5.symm
    · rw [if_neg e]
  have h3 : ∀ c : List Int, (crashF (ld q st 0 0 i fs [(lgN, i)] []).files [(lgN, i)] c).1 = (ld q st 0 0 i fs [(lgN, i)] []).files := fun c => by
    show (crashF fs [(lgN, i)] c).1 = fs
    rw [crashF_step _ (lgN, i) [] c ⟨b, b.length⟩ hf]
    show (fs.set i _) = fs
    simp only [Nat.sub_self, hp0]
    unfold fellB
    simp only [Nat.add_zero, List.take_length, Nat.sub_zero, Nat.zero_min, List.replicate_zero, List.append_nil]
    exact hset
  rw [h3]
  rfl
end Go.Proofs.Ytmdecbockpgagaa
