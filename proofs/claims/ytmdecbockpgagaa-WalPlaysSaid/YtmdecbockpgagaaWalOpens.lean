import Derived.Test.YtmdecbockpgagaaWalGate
/- Groups whose bytes are cut off. -/
namespace Go.Proofs.Ytmdecbockpgagaa
open Go.RowKit

theorem allB_cut : ∀ (ls : List (List Int)) (k : Nat), (∀ l ∈ ls, l.length ≤ 400000) → k < (fcat ls).length → ∃ n, n < ls.length ∧ allB ((fcat ls).take k) = ls.take n
  | [], k, _, h => absurd h (by simp [fcat])
  | x :: xs, k, h, hk => by
    by_cases h8 : k < x.length + 8
    · exact ⟨0, by simp, by rw [List.take_zero]; exact allB_none (frame_cut x (fcat xs) (h x (by simp)) k h8)⟩
    · have e : (fcat (x :: xs)).take k = frameB x ++ (fcat xs).take (k - (x.length + 8)) := by
        show (frameB x ++ fcat xs).take k = _
        rw [List.take_append, List.take_of_length_le (by rw [frameB_length]; omega), frameB_length]
      have hl : (fcat (x :: xs)).length = x.length + 8 + (fcat xs).length := by
        show (frameB x ++ fcat xs).length = _
        rw [List.length_append, frameB_length]
      obtain ⟨n, h1, h2⟩ := allB_cut xs (k - (x.length + 8)) (fun l hl => h l (by simp [hl])) (by omega)
      exact ⟨n + 1, by simp; omega, by rw [e, allB_frame _ _ (h x (by simp)), h2]; rfl⟩
/-- A beginning of a group's bytes tells no group. -/
theorem gB_torn {g : List Rc} (h : groupB g = true) (k : Nat) (hk : k < (encG g).length) : gB ((encG g).take k) = [] := by
  have e : encG g = fcat (frG g) := if_pos h
  rw [e] at hk ⊢
  obtain ⟨n, h1, h2⟩ := allB_cut (frG g) k (frG_small (groupB_all h)) hk
  unfold gB
  rw [h2]
  have hn : n ≤ g.length := by
    have : (frG g).length = g.length + 1 := by unfold frG; simp
    omega
  have h3 : (frG g).take n = (g.take n).map rcB ++ [] := by
    unfold frG
    rw [List.take_append_of_le_length (by simpa using hn), List.map_take, List.append_nil]
  rw [h3, groupsF_recs (g.take n) [] [] 0 (fun r hr => groupB_all h r (List.mem_of_mem_take hr))]
  rfl
/-- Bytes of groups, cut off: the groups that are whole. -/
theorem gB_cut : ∀ (gs : List (List Rc)) (k : Nat), (∀ g ∈ gs, groupB g = true) → k ≤ (catG gs).length →
    ∃ n, n ≤ gs.length ∧ gsOf ((catG gs).take k) = gs.take n ∧ endOf ((catG gs).take k) = (catG (gs.take n)).length ∧ (catG (gs.take n)).length ≤ k ∧ (n < gs.length → k < (catG (gs.take (n + 1))).length)
  | [], k, _, _ => by
    refine ⟨0, Nat.le_refl _, ?_, ?_, by simp [catG], fun h => absurd h (by simp)⟩
    · have : (catG []).take k = [] := by simp [catG]
      rw [this]
      unfold gsOf
      rw [gB_nil]
      rfl
    · have : (catG []).take k = [] := by simp [catG]
      rw [this]
      unfold endOf
      rw [gB_nil]
      rfl
  | g :: gs, k, h, hk => by
    have hg := h g (by simp)
    have hc : catG (g :: gs) = encG g ++ catG gs := rfl
    by_cases h1 : k < (encG g).length
    · have e : (catG (g :: gs)).take k = (encG g).take k := by
        rw [hc, List.take_append_of_le_length (by omega)]
      refine ⟨0, Nat.zero_le _, ?_, ?_, by simp [catG], fun _ => ?_⟩
      · rw [e]; unfold gsOf; rw [gB_torn hg k h1]; rfl
      · rw [e]; unfold endOf; rw [gB_torn hg k h1]; rfl
      · show k < (catG [g]).length
        simpa [catG] using h1
    · have e : (catG (g :: gs)).take k = encG g ++ (catG gs).take (k - (encG g).length) := by
        rw [hc, List.take_append, List.take_of_length_le (by omega)]
      rw [hc, List.length_append] at hk
      obtain ⟨n, n1, n2, n3, n4, n5⟩ := gB_cut gs (k - (encG g).length) (fun x hx => h x (by simp [hx])) (by omega)
      have hcn : ∀ m, (catG ((g :: gs).take (m + 1))).length = (encG g).length + (catG (gs.take m)).length := fun m => by
        show (encG g ++ catG (gs.take m)).length = _
        rw [List.length_append]
      refine ⟨n + 1, by simp; omega, ?_, ?_, by rw [hcn]; omega, fun hlt => ?_⟩
      · rw [e, gsOf_enc hg, n2]; rfl
      · rw [e, hcn, ← n3]
        unfold endOf
        rw [gB_enc hg]
        cases hp : gB ((catG gs).take (k - (encG g).length)) with
        | nil => simp
        | cons p ps =>
          have : ((p :: ps).map fun p : List Rc × Nat => (p.1, (encG g).length + p.2)).getLast? = (p :: ps).getLast?.map fun p : List Rc × Nat => (p.1, (encG g).length + p.2) := by rw [List.getLast?_map]
          rw [List.getLast?_cons, this]
          cases hl : (p :: ps).getLast? with
          | none => simp at hl
          | some z => simp
      · have h2 := n5 (by simpa using hlt)
        rw [hcn]
        omega
end Go.Proofs.Ytmdecbockpgagaa

/- A group's bytes, of which a crash has left a part, and noughts. -/
namespace Go.Proofs.Ytmdecbockpgagaa
open Go.RowKit

/-- What a crash has left of bytes. -/
def left (xs : List Int) (c z : Nat) : List Int := xs.take c ++ List.replicate z 0
theorem noughts_none (m : Nat) : ¬ NextOk (List.replicate m (0 : Int)) := by
  intro ho
  have h8 := ho.1
  rw [List.length_replicate] at h8
  have hv : ∀ a : Nat, val (List.replicate a (0 : Int)) = 0 := by
    intro a
    induction a with
    | zero => rfl
    | succ a ih => rw [List.replicate_succ]; simp only [val]; omega
  have h3 := ho.2.2.2
  have e1 : (List.replicate m (0 : Int)).take 4 = [0, 0, 0, 0] := by rw [List.take_replicate, Nat.min_eq_left (by omega)]; rfl
  have e2 : ((List.replicate m (0 : Int)).drop 4).take 4 = List.replicate 4 0 := by rw [List.drop_replicate, List.take_replicate, Nat.min_eq_left (by omega)]
  have e3 : nextX (List.replicate m (0 : Int)) = [] := by unfold nextX; rw [e1]; simp [val]
  rw [e1, e2, e3, hv] at h3
  revert h3
  decide +kernel
theorem left_drop (x t : List Int) (c z : Nat) (hc : c < x.length + 8) :
    (c ≤ 8 ∧ ∃ m, (left (frameB x ++ t) c z).drop 8 = List.replicate m 0) ∨ (8 < c ∧ (left (frameB x ++ t) c z).drop 8 = x.take (c - 8) ++ List.replicate z 0 ∧ (left (frameB x ++ t) c z).take 4 = le (x.length : Int) 4) := by
  have hfl := frameB_length x
  have ht : (frameB x ++ t).take c = (frameB x).take c := by rw [List.take_append_of_le_length (by omega)]
  unfold left
  rw [ht]
  by_cases h8 : c ≤ 8
  · refine .inl ⟨h8, z - (8 - c), ?_⟩
    have hl : ((frameB x).take c).length = c := by rw [List.length_take]; omega
    rw [List.drop_append, List.drop_eq_nil_of_le (by omega), hl, List.drop_replicate, List.nil_append]
  · refine .inr ⟨by omega, ?_, ?_⟩
    · have hl : ((frameB x).take c).length = c := by rw [List.length_take]; omega
      rw [List.drop_append_of_le_length (by omega), List.drop_take]
      congr 2
    · rw [List.take_append_of_le_length (by rw [List.length_take]; omega), List.take_take, Nat.min_eq_left (by omega), frameB_parts', List.take_append_of_le_length (by rw [le_length]; omega), List.take_of_length_le (by rw [le_length]; omega)]
theorem left_rest (x t : List Int) (c z : Nat) (hx : x.length ≤ 400000) (hc : c < x.length + 8) : allB (nextR (left (frameB x ++ t) c z)) = [] := by
  have hm : ∃ m, nextR (left (frameB x ++ t) c z) = List.replicate m 0 := by
    unfold nextR
    rcases left_drop x t c z hc with ⟨_, m, h⟩ | ⟨h8, h, h4⟩
    · rw [h, List.drop_replicate]; exact ⟨_, rfl⟩
    · rw [h, h4, val_len _ hx, Int.toNat_natCast]
      have hl : (x.take (c - 8)).length = c - 8 := by rw [List.length_take]; omega
      rw [List.drop_append, List.drop_eq_nil_of_le (by omega), List.drop_replicate, List.nil_append]
      exact ⟨_, rfl⟩
  obtain ⟨m, hm⟩ := hm
  rw [hm]
  exact allB_none (noughts_none m)
theorem left_three (x t : List Int) (c z : Nat) (hx : x.length ≤ 400000) (hc : c < x.length + 8) (m : Int) (h : nextX (left (frameB x ++ t) c z) = [3, m]) :
    8 < c ∧ x.head? = some 3 ∧ (c = 9 → m = 0) := by
  unfold nextX at h
  rcases left_drop x t c z hc with ⟨_, k, e⟩ | ⟨h8, e, h4⟩
  · rw [e, List.take_replicate] at h
    have : (3 : Int) ∈ List.replicate (min (val ((left (frameB x ++ t) c z).take 4)).toNat k) (0 : Int) := by rw [h]; simp
    have := List.eq_of_mem_replicate this
    exact absurd this (by decide)
  · rw [e, h4, val_len _ hx, Int.toNat_natCast] at h
    cases x with
    | nil => simp at hc; omega
    | cons y ys =>
      have e1 : (y :: ys).take (c - 8) = y :: ys.take (c - 9) := by
        rw [show c - 8 = (c - 9) + 1 by omega]
        rfl
      rw [e1] at h
      simp only [List.cons_append, List.length_cons, List.take_succ_cons, List.cons.injEq] at h
      refine ⟨h8, by rw [h.1]; rfl, fun h9 => ?_⟩
      subst h9
      have h2 := h.2
      rw [show (9 : Nat) - 9 = 0 from rfl, List.take_zero, List.nil_append, List.take_replicate] at h2
      have : m ∈ List.replicate (min ys.length z) (0 : Int) := by rw [h2]; simp
      exact List.eq_of_mem_replicate this
/-- A group's frames, of which a crash has left a part: no group. -/
theorem groupsF_left : ∀ (l now : List Rc) (a c z : Nat), (∀ r ∈ l, rightB r = true) → c < (fcat (l.map rcB ++ [[3, ((now.length + l.length : Nat) : Int)]])).length → groupsF (allB (left (fcat (l.map rcB ++ [[3, ((now.length + l.length : Nat) : Int)]])) c z)) now a = []
  | [], now, a, c, z, _, hc => by
    have e : fcat (([] : List Rc).map rcB ++ [[3, ((now.length + 0 : Nat) : Int)]]) = frameB [3, (now.length : Int)] ++ [] := rfl
    have hc' : c < ([3, (now.length : Int)] : List Int).length + 8 := by
      rw [show ([] : List Rc).length = 0 from rfl, e, List.append_nil, frameB_length] at hc
      exact hc
    rw [show ([] : List Rc).length = 0 from rfl, e]
    by_cases hn : NextOk (left (frameB [3, (now.length : Int)] ++ []) c z)
    · rw [allB_next hn, left_rest _ _ _ _ (by simp) hc']
      unfold groupsF
      cases hr : recOf (nextX (left (frameB [3, (now.length : Int)] ++ []) c z)) with
      | some r => rfl
      | none =>
        simp only
        by_cases hx : nextX (left (frameB [3, (now.length : Int)] ++ []) c z) = [3, (now.length : Int)] ∧ groupB now = true
        · exfalso
          obtain ⟨h8, _, h9⟩ := left_three _ _ _ _ (by simp) hc' _ hx.1
          have h0 := h9 (by simp at hc'; omega)
          have := groupB_len hx.2
          omega
        · rw [if_neg hx]
    · rw [allB_none hn]
      rfl
  | r :: l, now, a, c, z, h, hc => by
    have hlen : now.length + (r :: l).length = (now ++ [r]).length + l.length := by simp; omega
    rw [hlen] at hc ⊢
    obtain ⟨rest, hrest⟩ : ∃ rest, l.map rcB ++ [[3, (((now ++ [r]).length + l.length : Nat) : Int)]] = rest := ⟨_, rfl⟩
    have e : fcat ((r :: l).map rcB ++ [[3, (((now ++ [r]).length + l.length : Nat) : Int)]]) = frameB (rcB r) ++ fcat rest := by rw [← hrest]; rfl
    rw [e] at hc ⊢
    have hr := h r (by simp)
    obtain ⟨h1, h2, h3⟩ := rightB_sizes hr
    have hx : (rcB r).length ≤ 400000 := by rw [rcB_len]; omega
    by_cases hcx : c < (rcB r).length + 8
    · by_cases hn : NextOk (left (frameB (rcB r) ++ fcat rest) c z)
      · rw [allB_next hn, left_rest _ _ _ _ hx hcx]
        unfold groupsF
        cases hr : recOf (nextX (left (frameB (rcB r) ++ fcat rest) c z)) with
        | some r => rfl
        | none =>
          simp only
          by_cases hx2 : nextX (left (frameB (rcB r) ++ fcat rest) c z) = [3, (now.length : Int)] ∧ groupB now = true
          · exfalso
            obtain ⟨_, h4, _⟩ := left_three _ _ _ _ hx hcx _ hx2.1
            have h5 : r.kind = 3 := by
              have : (rcB r).head? = some r.kind := rfl
              rw [this] at h4
              exact Option.some.inj h4
            omega
          · rw [if_neg hx2]
      · rw [allB_none hn]
        rfl
    · have e2 : left (frameB (rcB r) ++ fcat rest) c z = frameB (rcB r) ++ left (fcat rest) (c - ((rcB r).length + 8)) z := by
        unfold left
        rw [List.take_append, List.take_of_length_le (by rw [frameB_length]; omega), frameB_length, List.append_assoc]
      rw [e2, allB_frame _ _ hx]
      unfold groupsF
      rw [recOf_rcB hr]
      simp only
      rw [← hrest]
      refine groupsF_left l (now ++ [r]) _ _ z (fun x hx => h x (by simp [hx])) ?_
      rw [hrest]
      rw [List.length_append, frameB_length] at hc
      omega
theorem gB_left {g : List Rc} (h : groupB g = true) (c z : Nat) (hc : c < (encG g).length) : gB (left (encG g) c z) = [] := by
  have e : encG g = fcat (frG g) := if_pos h
  rw [e] at hc ⊢
  unfold gB
  have e2 : frG g = g.map rcB ++ [[3, ((([] : List Rc).length + g.length : Nat) : Int)]] := by unfold frG; simp
  rw [e2] at hc ⊢
  exact groupsF_left g [] 0 c z (groupB_all h) hc
theorem left_all (xs : List Int) : left xs xs.length 0 = xs := by unfold left; simp
theorem left_nil (c z : Nat) (h : z = 0) : left [] c z = [] := by subst h; unfold left; simp
theorem left_length (xs : List Int) (c z : Nat) (h : c ≤ xs.length) : (left xs c z).length = c + z := by
  unfold left; rw [List.length_append, List.length_take, List.length_replicate, Nat.min_eq_left h]
/-- Bytes of groups, and behind them bytes that tell none. -/
theorem gB_cat_app : ∀ (gs : List (List Rc)) (t : List Int), (∀ g ∈ gs, groupB g = true) → gsOf (catG gs ++ t) = gs ++ gsOf t ∧ endOf (catG gs ++ t) = (catG gs).length + endOf t
  | [], t, _ => by
    have : catG [] = [] := rfl
    rw [this]
    simp
  | g :: gs, t, h => by
    have hg := h g (by simp)
    obtain ⟨h1, h2⟩ := gB_cat_app gs t (fun x hx => h x (by simp [hx]))
    have hc : catG (g :: gs) = encG g ++ catG gs := rfl
    rw [hc, List.append_assoc]
    refine ⟨by rw [gsOf_enc hg, h1]; rfl, ?_⟩
    rw [List.length_append, Nat.add_assoc, ← h2]
    unfold endOf
    rw [gB_enc hg]
    cases hp : gB (catG gs ++ t) with
    | nil => simp
    | cons p ps =>
      have : ((p :: ps).map fun p : List Rc × Nat => (p.1, (encG g).length + p.2)).getLast? = (p :: ps).getLast?.map fun p : List Rc × Nat => (p.1, (encG g).length + p.2) := by rw [List.getLast?_map]
      rw [List.getLast?_cons, this]
      cases hl : (p :: ps).getLast? with
      | none => simp at hl
      | some z => simp
theorem gsOf_none {t : List Int} (h : gB t = []) : gsOf t = [] ∧ endOf t = 0 := by
  unfold gsOf endOf
  rw [h]
  exact ⟨rfl, rfl⟩
/-- A log's bytes, and of one more group what a crash has left: the log, or with that group. -/
theorem left_groups {gs : List (List Rc)} {g : List Rc} (hgs : ∀ x ∈ gs, groupB x = true) (hg : groupB g = true) (c z : Nat) (hcz : c + z ≤ (encG g).length) :
    (gsOf (catG gs ++ left (encG g) c z) = gs ∧ (catG gs ++ left (encG g) c z).take (endOf (catG gs ++ left (encG g) c z)) = catG gs) ∨
    (gsOf (catG gs ++ left (encG g) c z) = gs ++ [g] ∧ (catG gs ++ left (encG g) c z).take (endOf (catG gs ++ left (encG g) c z)) = catG (gs ++ [g])) := by
  obtain ⟨h1, h2⟩ := gB_cat_app gs (left (encG g) c z) hgs
  by_cases hc : c < (encG g).length
  · obtain ⟨h3, h4⟩ := gsOf_none (gB_left hg c z hc)
    left
    rw [h1, h2, h3, h4]
    simp
  · have hc' : c = (encG g).length := by omega
    have hz : z = 0 := by omega
    subst hc' hz
    rw [left_all] at h1 h2 ⊢
    obtain ⟨h3, h4⟩ := endOf_enc hg
    right
    rw [h1, h2, h3, h4, catG_snoc]
    refine ⟨rfl, ?_⟩
    rw [← List.length_append, List.take_length]
end Go.Proofs.Ytmdecbockpgagaa

/- Disks that hold a log and nothing else, as plain data: whatever of it is kept, whatever fails. -/
namespace Go.Proofs.Ytmdecbockpgagaa
open Go.RowKit

/-- A disk whose one name is the log's. -/
def ld (q : Int) (st : Nat) (fa oa : Int) (i : Nat) (fs : List Fl) (kp : NM) (si : List Chg) : DS := ⟨q, [(lgN, i)], kp, si, (st : Int), fa, oa, fs⟩
/-- What the next step tells. -/
def cd (st : Nat) (fa oa : Int) : Int := if 0 < oa ∧ oa ≤ (st : Int) + 1 then 203 else if (st : Int) + 1 = fa then 202 else 0
variable {q fa oa : Int} {st i k : Nat} {fs : List Fl} {kp : NM} {si : List Chg} {b : List Int}

theorem tick_code (d : DS) (ss : List Nm) (hs : ss.all nameB = true) (st : Nat) (h : d.steps = (st : Int)) : d.tick.code ss = cd st d.failAt d.offAt := by
  unfold DS.code DS.off cd
  have h1 : d.tick.steps = (st : Int) + 1 := by unfold DS.tick; rw [h]
  have h2 : d.tick.failAt = d.failAt := rfl
  have h3 : d.tick.offAt = d.offAt := rfl
  rw [h1, h2, h3, hs]
  simp
theorem cd_zero (st : Nat) : cd st 0 0 = 0 := by unfold cd; rw [if_neg (by omega), if_neg (by omega)]
theorem cd_cases (st : Nat) (fa oa : Int) : cd st fa oa = 0 ∨ cd st fa oa = 202 ∨ cd st fa oa = 203 := by
  unfold cd
  split
  · exact .inr (.inr rfl)
  · split
    · exact .inr (.inl rfl)
    · exact .inl rfl
theorem ld_names (h : [lgN].all nameB = true := by decide +kernel) : [lgN].all nameB = true := h
theorem ld_open : (ld q st fa oa i fs kp si).tick.open_ lgN [] = cd st fa oa := by
  have hc : (ld q st fa oa i fs kp si).tick.code [lgN] = cd st fa oa := tick_code _ _ (by decide +kernel) st rfl
  unfold DS.open_
  rw [hc]
  by_cases h : cd st fa oa = 0
  · rw [h, if_neg (by simp), show mlk (ld q st fa oa i fs kp si).tick.names lgN = some i from mlk_lg i]
    rfl
  · rw [if_pos h]
theorem ld_used (h : fs[i]? = some ⟨b, k⟩) : (ld q st fa oa i fs kp si).used = b.length := by
  have : bytesIn (ld q st fa oa i fs kp si) i = b := by
    unfold bytesIn
    rw [show (ld q st fa oa i fs kp si).files[i]? = some ⟨b, k⟩ from h]
    rfl
  show (List.map (fun p => (bytesIn (ld q st fa oa i fs kp si) p.2).length) [(lgN, i)]).sum = _
  simp [this]
theorem ld_sync (h : fs[i]? = some ⟨b, k⟩) : (ld q st fa oa i fs kp si).sync lgN = if cd st fa oa = 0 then (0, ld q (st + 1) fa oa i (fs.set i ⟨b, b.length⟩) kp si) else (cd st fa oa, ld q (st + 1) fa oa i fs kp si) := by
  by_cases hc : cd st fa oa = 0
  · rw [if_pos hc, sync_yes _ lgN i ⟨b, k⟩ (ld_open.trans hc) (mlk_lg _) h]
    unfold setFile DS.tick ld
    simp
  · rw [if_neg hc]
    unfold DS.sync
    simp only
    rw [ld_open, if_pos hc]
    unfold DS.tick ld
    simp
theorem ld_syncDir : (ld q st fa oa i fs kp si).syncDir = if cd st fa oa = 0 then (0, ld q (st + 1) fa oa i fs [(lgN, i)] []) else (cd st fa oa, ld q (st + 1) fa oa i fs kp si) := by
  have hcode : (ld q st fa oa i fs kp si).tick.code [] = cd st fa oa := tick_code _ _ rfl st rfl
  unfold DS.syncDir
  simp only
  rw [hcode]
  by_cases hc : cd st fa oa = 0
  · rw [if_pos hc, if_neg (by rw [hc]; simp)]
    unfold DS.tick ld
    simp
  · rw [if_neg hc, if_pos hc]
    unfold DS.tick ld
    simp
theorem ld_append (xs : List Int) (h : fs[i]? = some ⟨b, k⟩) (hq : ((b.length + xs.length : Nat) : Int) ≤ q) (hm : b.length + xs.length ≤ 400000) : (ld q st fa oa i fs kp si).append lgN xs = if cd st fa oa = 0 then (0, ld q (st + 1) fa oa i (fs.set i ⟨b ++ xs, k⟩) kp si) else (cd st fa oa, ld q (st + 1) fa oa i fs kp si) := by
  by_cases hc : cd st fa oa = 0
  · rw [if_pos hc, append_yes _ lgN xs i ⟨b, k⟩ (ld_open.trans hc) (mlk_lg _) h (by
      rw [ld_used h]
      show ¬ (q < (b.length : Int) ∨ q - (b.length : Int) < (xs.length : Int) ∨ 400000 - (b.length : Int) < (xs.length : Int))
      omega)]
    unfold setFile DS.tick ld
    simp
  · rw [if_neg hc]
    unfold DS.append
    simp only
    rw [ld_open, if_pos hc]
    unfold DS.tick ld
    simp
theorem ld_create : (ld q st fa oa i fs kp si).create lgN = if cd st fa oa = 0 then (0, ld q (st + 1) fa oa fs.length (fs ++ [⟨[], 0⟩]) kp (si ++ [⟨some fs.length, [], lgN⟩])) else (cd st fa oa, ld q (st + 1) fa oa i fs kp si) := by
  have hcode : (ld q st fa oa i fs kp si).tick.code [lgN] = cd st fa oa := tick_code _ _ (by decide +kernel) st rfl
  unfold DS.create
  simp only
  rw [hcode]
  by_cases hc : cd st fa oa = 0
  · rw [if_pos hc, if_neg (by rw [hc]; simp), if_neg (by simp [DS.tick, ld])]
    unfold DS.tick ld
    simp [mput, mdel, mins]
  · rw [if_neg hc, if_pos hc]
    unfold DS.tick ld
    simp
theorem ld_read (h : fs[i]? = some ⟨b, k⟩) : (ld q st fa 0 i fs kp si).read lgN = (0, b) := by
  unfold DS.read
  rw [show (ld q st fa 0 i fs kp si).off = false from by unfold DS.off ld; simp, if_neg (by decide), show mlk (ld q st fa 0 i fs kp si).names lgN = some i from mlk_lg _]
  simp only
  unfold bytesIn
  rw [show (ld q st fa 0 i fs kp si).files[i]? = some ⟨b, k⟩ from h]
  rfl
theorem set_at {fs : List Fl} {i : Nat} {f : Fl} (g : Fl) (h : fs[i]? = some f) : (fs.set i g)[i]? = some g := by
  rw [List.getElem?_set]
  have := (List.getElem?_eq_some_iff.1 h).1
  simp [this]
theorem snoc_at (fs : List Fl) (f : Fl) : (fs ++ [f])[fs.length]? = some f := by simp

/-- A log's disk, kept wholly. -/
def IsLog (q : Int) (st : Nat) (b : List Int) (d : DS) : Prop := ∃ i fs, d = ld q st 0 0 i fs [(lgN, i)] [] ∧ fs[i]? = some ⟨b, b.length⟩
/-- A log's disk, kept or not. -/
def Loose (q : Int) (st : Nat) (b : List Int) (d : DS) : Prop := ∃ i fs k kp si, d = ld q st 0 0 i fs kp si ∧ fs[i]? = some ⟨b, k⟩
variable {d : DS}
theorem IsLog.loose (h : IsLog q st b d) : Loose q st b d := by
  obtain ⟨i, fs, h1, h2⟩ := h
  exact ⟨i, fs, _, _, _, h1, h2⟩
theorem IsLog.steps (h : IsLog q st b d) : d.steps = (st : Int) ∧ d.quota = q := by
  obtain ⟨i, fs, rfl, h2⟩ := h
  exact ⟨rfl, rfl⟩
theorem Loose.steps (h : Loose q st b d) : d.steps = (st : Int) ∧ d.quota = q := by
  obtain ⟨i, fs, k, kp, si, rfl, h2⟩ := h
  exact ⟨rfl, rfl⟩
theorem Loose.read (h : Loose q st b d) : d.read lgN = (0, b) := by
  obtain ⟨i, fs, k, kp, si, rfl, h2⟩ := h
  exact ld_read h2
theorem IsLog.read (h : IsLog q st b d) : d.read lgN = (0, b) := h.loose.read
theorem wd_isLog (q : Int) (st : Nat) (old : List Fl) (b : List Int) : IsLog q st b (wdisk q st old b) := ⟨old.length, _, rfl, snoc_at _ _⟩
theorem runL_cons {f : DS → Int × DS} {fs : List (DS → Int × DS)} {d d1 : DS} (h : f d = (0, d1)) : runL (f :: fs) d = runL fs d1 := by
  show (if (f d).1 = 0 then runL fs (f d).2 else f d) = _
  rw [h, if_pos rfl]
theorem runL_stop {f : DS → Int × DS} {fs : List (DS → Int × DS)} {d d1 : DS} {e : Int} (h : f d = (e, d1)) (he : e ≠ 0) : runL (f :: fs) d = (e, d1) := by
  show (if (f d).1 = 0 then runL fs (f d).2 else f d) = _
  rw [h, if_neg he]
theorem ld_keeps (h : fs[i]? = some ⟨b, k⟩) : keepsW lgN (ld q st 0 0 i fs kp si) = (0, ld q (st + 2) 0 0 i (fs.set i ⟨b, b.length⟩) [(lgN, i)] []) := by
  have h1 := ld_sync (q := q) (st := st) (fa := 0) (oa := 0) (kp := kp) (si := si) h
  rw [if_pos (cd_zero _)] at h1
  have h2 := ld_syncDir (q := q) (st := st + 1) (fa := 0) (oa := 0) (i := i) (fs := fs.set i ⟨b, b.length⟩) (kp := kp) (si := si)
  rw [if_pos (cd_zero _)] at h2
  exact runL_two h1 h2
theorem Loose.keeps (h : Loose q st b d) : ∃ d', keepsW lgN d = (0, d') ∧ IsLog q (st + 2) b d' := by
  obtain ⟨i, fs, k, kp, si, rfl, h2⟩ := h
  exact ⟨_, ld_keeps h2, i, _, rfl, set_at _ h2⟩
theorem IsLog.append (h : IsLog q st b d) (rs : List Rc) (hq : ((b.length + (encG rs).length : Nat) : Int) ≤ q) (hm : b.length + (encG rs).length ≤ 400000) : ∃ d', appW lgN rs d = (0, d') ∧ IsLog q (st + 2) (b ++ encG rs) d' := by
  obtain ⟨i, fs, rfl, h2⟩ := h
  have h1 := ld_append (q := q) (st := st) (fa := 0) (oa := 0) (kp := [(lgN, i)]) (si := []) (encG rs) h2 hq hm
  rw [if_pos (cd_zero _)] at h1
  have h3 := ld_sync (q := q) (st := st + 1) (fa := 0) (oa := 0) (kp := [(lgN, i)]) (si := []) (set_at ⟨b ++ encG rs, b.length⟩ h2)
  rw [if_pos (cd_zero _), List.set_set] at h3
  exact ⟨_, runL_two h1 h3, i, _, rfl, set_at _ h2⟩
theorem IsLog.fresh (h : IsLog q st b d) : ∃ d', freshW lgN d = (0, d') ∧ IsLog q (st + 3) [] d' := by
  obtain ⟨i, fs, rfl, h2⟩ := h
  have h1 := ld_create (q := q) (st := st) (fa := 0) (oa := 0) (i := i) (fs := fs) (kp := [(lgN, i)]) (si := [])
  rw [if_pos (cd_zero _)] at h1
  have h3 := ld_keeps (q := q) (st := st + 1) (kp := [(lgN, i)]) (si := [] ++ [⟨some fs.length, [], lgN⟩]) (snoc_at fs ⟨[], 0⟩)
  exact ⟨_, runL_two h1 h3, fs.length, _, rfl, set_at _ (snoc_at fs ⟨[], 0⟩)⟩

/-! ### Open with a torn end -/
abbrev newN : Nm := [108, 111, 103, 46, 110, 101, 119]
abbrev oldN : Nm := [108, 111, 103, 46, 111, 108, 100]
def otherN (nm : Nm) : Nm := if nm = newN then oldN else newN
/-- What cuts does. -/
def cutsW (nm : Nm) (xs : List Int) (d : DS) : Int × DS :=
  let r := runL [fun d => d.create (otherN nm), fun d => d.append (otherN nm) xs, fun d => d.sync (otherN nm), fun d => d.rename (otherN nm) nm, DS.syncDir] d
  if r.1 = 201 then (201, (r.2.remove (otherN nm)).2) else r
/-- What Open does. -/
def openF (nm : Nm) (d : DS) : Int × DS :=
  if (d.read nm).1 = 200 then freshW nm d else if (d.read nm).1 ≠ 0 then ((d.read nm).1, d)
  else if endOf (d.read nm).2 < (d.read nm).2.length then cutsW nm ((d.read nm).2.take (endOf (d.read nm).2)) d else keepsW nm d
theorem ld_cuts (xs : List Int) (h : fs[i]? = some ⟨b, k⟩) (hq : ((b.length + xs.length : Nat) : Int) ≤ q) (hm : xs.length ≤ 400000) :
    cutsW lgN xs (ld q st 0 0 i fs kp si) = (0, ld q (st + 5) 0 0 fs.length (fs ++ [⟨xs, xs.length⟩]) [(lgN, fs.length)] []) := by
  have ho : otherN lgN = newN := rfl
  have hi : i < fs.length := (List.getElem?_eq_some_iff.1 h).1
  have hk : ∀ j, mlk [(lgN, i), (newN, j)] newN = some j := fun j => by unfold mlk; simp
  have h1 : (ld q st 0 0 i fs kp si).create newN = (0, ⟨q, [(lgN, i), (newN, fs.length)], kp, si ++ [⟨some fs.length, [], newN⟩], ((st + 1 : Nat) : Int), 0, 0, fs ++ [⟨[], 0⟩]⟩) := by
    have hcode : (ld q st 0 0 i fs kp si).tick.code [newN] = 0 := (tick_code _ _ (by decide +kernel) st rfl).trans (cd_zero st)
    unfold DS.create
    simp only
    rw [hcode, if_neg (by simp), if_neg (by simp [DS.tick, ld])]
    unfold DS.tick ld
    simp [mput, mdel, mins, bytesBefore]
  obtain ⟨si2, hsi⟩ : ∃ si2, si ++ [⟨some fs.length, [], newN⟩] = si2 := ⟨_, rfl⟩
  rw [hsi] at h1
  have hf : ∀ (g : Fl) (fs2 : List Fl), fs2 = fs ++ [g] → fs2[fs.length]? = some g := fun g fs2 e => by rw [e]; exact snoc_at _ _
  have hopen : ∀ (st : Nat) (si : List Chg) (fs2 : List Fl), (⟨q, [(lgN, i), (newN, fs.length)], kp, si, (st : Int), 0, 0, fs2⟩ : DS).tick.open_ newN [] = 0 := fun st si fs2 => by
    have hc : (⟨q, [(lgN, i), (newN, fs.length)], kp, si, (st : Int), 0, 0, fs2⟩ : DS).tick.code [newN] = 0 := (tick_code _ _ (by decide +kernel) st rfl).trans (cd_zero st)
    unfold DS.open_
    rw [hc, if_neg (by simp), show mlk (⟨q, [(lgN, i), (newN, fs.length)], kp, si, (st : Int), 0, 0, fs2⟩ : DS).tick.names newN = some fs.length from hk _]
    rfl
  have h2 : (⟨q, [(lgN, i), (newN, fs.length)], kp, si2, ((st + 1 : Nat) : Int), 0, 0, fs ++ [⟨[], 0⟩]⟩ : DS).append newN xs = (0, ⟨q, [(lgN, i), (newN, fs.length)], kp, si2, ((st + 2 : Nat) : Int), 0, 0, fs ++ [⟨xs, 0⟩]⟩) := by
    have hu : (⟨q, [(lgN, i), (newN, fs.length)], kp, si2, ((st + 1 : Nat) : Int), 0, 0, fs ++ [⟨[], 0⟩]⟩ : DS).used = b.length := by
      have e1 : bytesIn (⟨q, [(lgN, i), (newN, fs.length)], kp, si2, ((st + 1 : Nat) : Int), 0, 0, fs ++ [⟨[], 0⟩]⟩ : DS) i = b := by
        unfold bytesIn
        dsimp only
        rw [List.getElem?_append_left hi, h]
        rfl
      have e2 : bytesIn (⟨q, [(lgN, i), (newN, fs.length)], kp, si2, ((st + 1 : Nat) : Int), 0, 0, fs ++ [⟨[], 0⟩]⟩ : DS) fs.length = [] := by
        unfold bytesIn
        dsimp only
        rw [snoc_at]
        rfl
      have e3 : ∀ D : DS, D.names = [(lgN, i), (newN, fs.length)] → D.used = (bytesIn D i).length + ((bytesIn D fs.length).length + 0) := fun D hD => by
        unfold DS.used
        rw [hD]
        rfl
      rw [e3 _ rfl, e1, e2]
      simp
    rw [append_yes _ newN xs fs.length ⟨[], 0⟩ (hopen _ _ _) (hk _) (snoc_at _ _) (by
      rw [hu]
      show ¬ (q < (b.length : Int) ∨ q - (b.length : Int) < (xs.length : Int) ∨ 400000 - ((([] : List Int).length : Nat) : Int) < (xs.length : Int))
      simp
      omega)]
    unfold setFile DS.tick
    simp
    omega
  have h3 : (⟨q, [(lgN, i), (newN, fs.length)], kp, si2, ((st + 2 : Nat) : Int), 0, 0, fs ++ [⟨xs, 0⟩]⟩ : DS).sync newN = (0, ⟨q, [(lgN, i), (newN, fs.length)], kp, si2, ((st + 3 : Nat) : Int), 0, 0, fs ++ [⟨xs, xs.length⟩]⟩) := by
    rw [sync_yes _ newN fs.length ⟨xs, 0⟩ (hopen _ _ _) (hk _) (snoc_at _ _)]
    unfold setFile DS.tick
    simp
    omega
  have h4 : (⟨q, [(lgN, i), (newN, fs.length)], kp, si2, ((st + 3 : Nat) : Int), 0, 0, fs ++ [⟨xs, xs.length⟩]⟩ : DS).rename newN lgN = (0, ⟨q, [(lgN, fs.length)], kp, si2 ++ [⟨none, newN, lgN⟩], ((st + 4 : Nat) : Int), 0, 0, fs ++ [⟨xs, xs.length⟩]⟩) := by
    have hc : (⟨q, [(lgN, i), (newN, fs.length)], kp, si2, ((st + 3 : Nat) : Int), 0, 0, fs ++ [⟨xs, xs.length⟩]⟩ : DS).tick.code [newN, lgN] = 0 := (tick_code _ _ (by decide +kernel) (st + 3) rfl).trans (cd_zero (st + 3))
    have ho2 : (⟨q, [(lgN, i), (newN, fs.length)], kp, si2, ((st + 3 : Nat) : Int), 0, 0, fs ++ [⟨xs, xs.length⟩]⟩ : DS).tick.open_ newN [lgN] = 0 := by
      unfold DS.open_
      rw [hc, if_neg (by simp), show mlk (⟨q, [(lgN, i), (newN, fs.length)], kp, si2, ((st + 3 : Nat) : Int), 0, 0, fs ++ [⟨xs, xs.length⟩]⟩ : DS).tick.names newN = some fs.length from hk _]
      rfl
    unfold DS.rename
    simp only
    rw [ho2, if_neg (by simp), if_neg (by decide)]
    unfold DS.changes DS.tick does
    simp [hk, mput, mdel, mins]
    omega
  have h5 : (⟨q, [(lgN, fs.length)], kp, si2 ++ [⟨none, newN, lgN⟩], ((st + 4 : Nat) : Int), 0, 0, fs ++ [⟨xs, xs.length⟩]⟩ : DS).syncDir = (0, ld q (st + 5) 0 0 fs.length (fs ++ [⟨xs, xs.length⟩]) [(lgN, fs.length)] []) := by
    have := ld_syncDir (q := q) (st := st + 4) (fa := 0) (oa := 0) (i := fs.length) (fs := fs ++ [⟨xs, xs.length⟩]) (kp := kp) (si := si2 ++ [⟨none, newN, lgN⟩])
    rw [if_pos (cd_zero _)] at this
    exact this
  have hr : runL [fun d => d.create (otherN lgN), fun d => d.append (otherN lgN) xs, fun d => d.sync (otherN lgN), fun d => d.rename (otherN lgN) lgN, DS.syncDir] (ld q st 0 0 i fs kp si) = (0, ld q (st + 5) 0 0 fs.length (fs ++ [⟨xs, xs.length⟩]) [(lgN, fs.length)] []) := by
    rw [ho, runL_cons (f := fun d => d.create newN) h1, runL_cons (f := fun d => d.append newN xs) h2, runL_cons (f := fun d => d.sync newN) h3, runL_cons (f := fun d => d.rename newN lgN) h4, runL_cons (f := DS.syncDir) h5]
    rfl
  unfold cutsW
  simp only
  rw [hr]
  rfl
/-- Opened, a log's disk holds the groups' bytes, and is kept. -/
theorem Loose.opens (h : Loose q st b d) (hq : ((2 * b.length : Nat) : Int) ≤ q) (hm : b.length ≤ 400000) (he : endOf b ≤ b.length) : ∃ d' st', st' ≤ st + 5 ∧ openF lgN d = (0, d') ∧ IsLog q st' (b.take (endOf b)) d' := by
  unfold openF
  rw [h.read]
  dsimp only
  rw [if_neg (by decide), if_neg (by decide)]
  by_cases hlt : endOf b < b.length
  · rw [if_pos hlt]
    obtain ⟨i, fs, k, kp, si, rfl, h2⟩ := h
    have hl : (b.take (endOf b)).length = endOf b := by rw [List.length_take]; omega
    exact ⟨_, st + 5, Nat.le_refl _, ld_cuts _ h2 (by rw [hl]; omega) (by omega), fs.length, _, rfl, snoc_at _ _⟩
  · rw [if_neg hlt]
    obtain ⟨d', h1, h2⟩ := h.keeps
    rw [List.take_of_length_le (by omega)]
    exact ⟨d', st + 2, by omega, h1, h2⟩
theorem newD_opens (q : Int) : (newD q).read lgN = (200, []) ∧ openF lgN (newD q) = (0, wdisk q 3 [] []) := by
  obtain ⟨h1, h2⟩ := wd_first (q := q)
  refine ⟨h1, ?_⟩
  unfold openW at h2
  unfold openF
  rw [h1] at h2 ⊢
  exact h2
end Go.Proofs.Ytmdecbockpgagaa

/- package wal: cuts; Open, whatever lies in the file. -/
namespace Go.Proofs.Ytmdecbockpgagaa
open Go.RowKit Go.Maps Go.Proofs.YtmdecbockpgagaaW.PrintWords Go.Proofs.YtmdecbockpgagaaW.PrintMore
variable {B p : Nat} {w0 : World} {G : DG} {d : DS} {w w' : World}

set_option maxRecDepth 100000 in
set_option maxHeartbeats 1000000 in
theorem cuts1 (h : Dk B p w0 G d w) (hst : d.steps < 1000000000) {lb ob ub : Nat} {nm u : Nm} {ng : Int} {br : Bool} (hl : Lg w lb p nm ng br) (hf : ¬ G.has lb) (ho : w.heap[ob]? = some (.cells #[pv lb] 26)) (hob : ¬ G.has ob) (hu : w.heap[ub]? = some (.cells #[.string (S u)] 9)) (hub : ¬ G.has ub) (hnu : u.length ≤ 1000000) :
    Calls Try.prog 55 #[.pointer (some ⟨ob, 0, none⟩), .pointer (some ⟨ub, 0, none⟩)] w fun e w' => e = .returned (.int .i64 (d.create u).1) ∧ ∃ G', Dk B p w0 G' (d.create u).2 w' ∧ Tr w G w' G' := by
  have SS : Hid (∀ W' G', Tr w.drew G W' G' → W'.cell? ⟨ob, 0, none⟩ = some (pv lb) ∧ W'.cell? ⟨lb, 0, none⟩ = some (pv p) ∧ W'.cell? ⟨ub, 0, none⟩ = some (.string (S u))) := Lib.hid (fun W' G' ht => by
    have h1 := (ht.block lb (Array.getElem?_eq_some_iff.1 hl).1 hf).trans hl
    exact ⟨cells_blk ((ht.block ob (Array.getElem?_eq_some_iff.1 ho).1 hob).trans ho) 0 _ rfl, cells_blk h1 0 _ rfl, cells_blk ((ht.block ub (Array.getElem?_eq_some_iff.1 hu).1 hub).trans hu) 0 _ rfl⟩)
  have HK := Lib.hid (k_create (h.below (Below.refl _ w).drew) hst u hnu)
  have HT := Lib.hid (Tr.of_below (Below.refl w.heap.size w).drew G)
  clear hl hf ho hob h hu hub
  go_enter Try.func55, Try.ntmps55
  go_wp2_with fail
  refine wp_region_noPanic ?_
  refine wp_region_held_drew (S := fun W => W.cell? ⟨ob, 0, none⟩ = some (pv lb) ∧ W.cell? ⟨lb, 0, none⟩ = some (pv p) ∧ W.cell? ⟨ub, 0, none⟩ = some (.string (S u))) (by kernel_rfl) (SS.out _ _ (Tr.refl _ G)) (fun hHeld => ?_)
  refine held_take (i := 0) (v := ?_) rfl (by kernel_rfl) (by kernel_rfl) (by kernel_rfl) (fun _ _ _ h => h) (by rfl) hHeld ?y1_0 ?_
  case y1_0 => (intro w hSw; (try dsimp only at hSw); go_simp; try with_reducible rfl)
  try simp only [Act.put, List.setIfInBounds_toArray, List.set_cons_zero, List.set_cons_succ]
  refine held_take (i := 1) (v := ?_) rfl (by kernel_rfl) (by kernel_rfl) (by kernel_rfl) (fun _ _ _ h => h) (by rfl) hHeld ?y1_1 ?_
  case y1_1 => (intro w hSw; (try dsimp only at hSw); go_simp; try with_reducible rfl)
  try simp only [Act.put, List.setIfInBounds_toArray, List.set_cons_zero, List.set_cons_succ]
  refine held_take (i := 2) (v := ?_) rfl (by kernel_rfl) (by kernel_rfl) (by kernel_rfl) (fun _ _ _ h => h) (by rfl) hHeld ?y1_2 ?_
  case y1_2 => (intro w hSw; (try dsimp only at hSw); go_simp; try with_reducible rfl)
  try simp only [Act.put, List.setIfInBounds_toArray, List.set_cons_zero, List.set_cons_succ]
  refine held_take (i := 3) (v := ?_) rfl (by kernel_rfl) (by kernel_rfl) (by kernel_rfl) (fun _ _ _ h => h) (by rfl) hHeld ?y1_3 ?_
  case y1_3 => (intro w hSw; (try dsimp only at hSw); go_simp; try with_reducible rfl)
  try simp only [Act.put, List.setIfInBounds_toArray, List.set_cons_zero, List.set_cons_succ]
  refine held_take (i := 4) (v := ?_) rfl (by kernel_rfl) (by kernel_rfl) (by kernel_rfl) (fun _ _ _ h => h) (by rfl) hHeld ?y1_4 ?_
  case y1_4 => (intro w hSw; (try dsimp only at hSw); go_simp; try with_reducible rfl)
  try simp only [Act.put, List.setIfInBounds_toArray, List.set_cons_zero, List.set_cons_succ]
  refine held_one (i := 5) (by kernel_rfl) rfl (fun K hK => ?_)
  (refine step_call (by rfl) _ _ (by rfl) Try.func20 (by kernel_rfl) (by kernel_rfl) (by simp only [List.map_toArray, List.map_cons, List.map_nil]; rfl) (HK.out.mono ?_); rintro e W2 ⟨rfl, G2, hk2, ht2⟩; have hS5 := SS.out _ _ ht2; refine ⟨_, rfl, ?_⟩)
  refine hK.out _ _ ?_ (fun hHeld => ?_)
  · exact hS5
  clear hK K
  try simp only [Act.put, List.setIfInBounds_toArray, List.set_cons_zero, List.set_cons_succ]
  refine held_take (i := 6) (v := ?_) rfl (by kernel_rfl) (by kernel_rfl) (by kernel_rfl) (fun _ _ _ h => h) (by rfl) hHeld ?y1_6 ?_
  case y1_6 => (intro w hSw; (try dsimp only at hSw); go_simp; try with_reducible rfl)
  try simp only [Act.put, List.setIfInBounds_toArray, List.set_cons_zero, List.set_cons_succ]
  refine wpAnyH_done (by kernel_rfl) ?_ _
  refine NoPanic.normal ?_
  have HK2 := Lib.hid hk2
  have HT2 := Lib.hid (HT.out.trans ht2)
  clear hk2 ht2 hS5 HK HT SS hHeld
  go_wp2_with fail
  go_ret
  exact ⟨rfl, G2, HK2.out, HT2.out⟩

set_option maxRecDepth 100000 in
set_option maxHeartbeats 1000000 in
theorem cuts2 (h : Dk B p w0 G d w) (hst : d.steps < 1000000000) {lb ob ub : Nat} {nm u : Nm} {ng : Int} {br : Bool} (hl : Lg w lb p nm ng br) (hf : ¬ G.has lb) (ho : w.heap[ob]? = some (.cells #[pv lb] 26)) (hob : ¬ G.has ob) (hu : w.heap[ub]? = some (.cells #[.string (S u)] 9)) (hub : ¬ G.has ub) {xb : Nat} {v : Value} {xs : List Int} (hx : w.heap[xb]? = some (.cells #[v] 22)) (hxb : ¬ G.has xb) (hr : RdB w v xs) (hxs : By xs) (hfar : Far G v) (hq : -9223372036854775808 ≤ d.quota ∧ d.quota < 9223372036854775808) (hnu : u.length ≤ 1000000) :
    Calls Try.prog 56 #[.pointer (some ⟨ob, 0, none⟩), .pointer (some ⟨ub, 0, none⟩), .pointer (some ⟨xb, 0, none⟩)] w fun e w' => e = .returned (.int .i64 (d.append u xs).1) ∧ ∃ G', Dk B p w0 G' (d.append u xs).2 w' ∧ Tr w G w' G' := by
  have SS : Hid (∀ W' G', Tr w.drew G W' G' → W'.cell? ⟨ob, 0, none⟩ = some (pv lb) ∧ W'.cell? ⟨lb, 0, none⟩ = some (pv p) ∧ W'.cell? ⟨ub, 0, none⟩ = some (.string (S u)) ∧ W'.cell? ⟨xb, 0, none⟩ = some v) := Lib.hid (fun W' G' ht => by
    have h1 := (ht.block lb (Array.getElem?_eq_some_iff.1 hl).1 hf).trans hl
    exact ⟨cells_blk ((ht.block ob (Array.getElem?_eq_some_iff.1 ho).1 hob).trans ho) 0 _ rfl, cells_blk h1 0 _ rfl, cells_blk ((ht.block ub (Array.getElem?_eq_some_iff.1 hu).1 hub).trans hu) 0 _ rfl, cells_blk ((ht.block xb (Array.getElem?_eq_some_iff.1 hx).1 hxb).trans hx) 0 _ rfl⟩)
  have HK := Lib.hid (k_append (h.below (Below.refl _ w).drew) hst u hnu xs hxs v (hr.below (Below.refl _ w).drew) hfar hq)
  have HT := Lib.hid (Tr.of_below (Below.refl w.heap.size w).drew G)
  clear hl hf ho hob h hu hub hx hxb hr hxs hfar
  go_enter Try.func56, Try.ntmps56
  go_wp2_with fail
  refine wp_region_noPanic ?_
  refine wp_region_held_drew (S := fun W => W.cell? ⟨ob, 0, none⟩ = some (pv lb) ∧ W.cell? ⟨lb, 0, none⟩ = some (pv p) ∧ W.cell? ⟨ub, 0, none⟩ = some (.string (S u)) ∧ W.cell? ⟨xb, 0, none⟩ = some v) (by kernel_rfl) (SS.out _ _ (Tr.refl _ G)) (fun hHeld => ?_)
  refine held_take (i := 0) (v := ?_) rfl (by kernel_rfl) (by kernel_rfl) (by kernel_rfl) (fun _ _ _ h => h) (by rfl) hHeld ?y1_0 ?_
  case y1_0 => (intro w hSw; (try dsimp only at hSw); go_simp; try with_reducible rfl)
  try simp only [Act.put, List.setIfInBounds_toArray, List.set_cons_zero, List.set_cons_succ]
  refine held_take (i := 1) (v := ?_) rfl (by kernel_rfl) (by kernel_rfl) (by kernel_rfl) (fun _ _ _ h => h) (by rfl) hHeld ?y1_1 ?_
  case y1_1 => (intro w hSw; (try dsimp only at hSw); go_simp; try with_reducible rfl)
  try simp only [Act.put, List.setIfInBounds_toArray, List.set_cons_zero, List.set_cons_succ]
  refine held_take (i := 2) (v := ?_) rfl (by kernel_rfl) (by kernel_rfl) (by kernel_rfl) (fun _ _ _ h => h) (by rfl) hHeld ?y1_2 ?_
  case y1_2 => (intro w hSw; (try dsimp only at hSw); go_simp; try with_reducible rfl)
  try simp only [Act.put, List.setIfInBounds_toArray, List.set_cons_zero, List.set_cons_succ]
  refine held_take (i := 3) (v := ?_) rfl (by kernel_rfl) (by kernel_rfl) (by kernel_rfl) (fun _ _ _ h => h) (by rfl) hHeld ?y1_3 ?_
  case y1_3 => (intro w hSw; (try dsimp only at hSw); go_simp; try with_reducible rfl)
  try simp only [Act.put, List.setIfInBounds_toArray, List.set_cons_zero, List.set_cons_succ]
  refine held_take (i := 4) (v := ?_) rfl (by kernel_rfl) (by kernel_rfl) (by kernel_rfl) (fun _ _ _ h => h) (by rfl) hHeld ?y1_4 ?_
  case y1_4 => (intro w hSw; (try dsimp only at hSw); go_simp; try with_reducible rfl)
  try simp only [Act.put, List.setIfInBounds_toArray, List.set_cons_zero, List.set_cons_succ]
  refine held_take (i := 5) (v := ?_) rfl (by kernel_rfl) (by kernel_rfl) (by kernel_rfl) (fun _ _ _ h => h) (by rfl) hHeld ?y1_5 ?_
  case y1_5 => (intro w hSw; (try dsimp only at hSw); go_simp; try with_reducible rfl)
  try simp only [Act.put, List.setIfInBounds_toArray, List.set_cons_zero, List.set_cons_succ]
  refine held_one (i := 6) (by kernel_rfl) rfl (fun K hK => ?_)
  (refine step_call (by rfl) _ _ (by rfl) Try.func21 (by kernel_rfl) (by kernel_rfl) (by simp only [List.map_toArray, List.map_cons, List.map_nil]; rfl) (HK.out.mono ?_); rintro e W2 ⟨rfl, G2, hk2, ht2⟩; have hS6 := SS.out _ _ ht2; refine ⟨_, rfl, ?_⟩)
  refine hK.out _ _ ?_ (fun hHeld => ?_)
  · exact hS6
  clear hK K
  try simp only [Act.put, List.setIfInBounds_toArray, List.set_cons_zero, List.set_cons_succ]
  refine held_take (i := 7) (v := ?_) rfl (by kernel_rfl) (by kernel_rfl) (by kernel_rfl) (fun _ _ _ h => h) (by rfl) hHeld ?y1_7 ?_
  case y1_7 => (intro w hSw; (try dsimp only at hSw); go_simp; try with_reducible rfl)
  try simp only [Act.put, List.setIfInBounds_toArray, List.set_cons_zero, List.set_cons_succ]
  refine wpAnyH_done (by kernel_rfl) ?_ _
  refine NoPanic.normal ?_
  have HK2 := Lib.hid hk2
  have HT2 := Lib.hid (HT.out.trans ht2)
  clear hk2 ht2 hS6 HK HT SS hHeld
  go_wp2_with fail
  go_ret
  exact ⟨rfl, G2, HK2.out, HT2.out⟩

set_option maxRecDepth 100000 in
set_option maxHeartbeats 1000000 in
theorem cuts3 (h : Dk B p w0 G d w) (hst : d.steps < 1000000000) {lb ob ub : Nat} {nm u : Nm} {ng : Int} {br : Bool} (hl : Lg w lb p nm ng br) (hf : ¬ G.has lb) (ho : w.heap[ob]? = some (.cells #[pv lb] 26)) (hob : ¬ G.has ob) (hu : w.heap[ub]? = some (.cells #[.string (S u)] 9)) (hub : ¬ G.has ub) (hnu : u.length ≤ 1000000) :
    Calls Try.prog 57 #[.pointer (some ⟨ob, 0, none⟩), .pointer (some ⟨ub, 0, none⟩)] w fun e w' => e = .returned (.int .i64 (d.sync u).1) ∧ ∃ G', Dk B p w0 G' (d.sync u).2 w' ∧ Tr w G w' G' := by
  have SS : Hid (∀ W' G', Tr w.drew G W' G' → W'.cell? ⟨ob, 0, none⟩ = some (pv lb) ∧ W'.cell? ⟨lb, 0, none⟩ = some (pv p) ∧ W'.cell? ⟨ub, 0, none⟩ = some (.string (S u))) := Lib.hid (fun W' G' ht => by
    have h1 := (ht.block lb (Array.getElem?_eq_some_iff.1 hl).1 hf).trans hl
    exact ⟨cells_blk ((ht.block ob (Array.getElem?_eq_some_iff.1 ho).1 hob).trans ho) 0 _ rfl, cells_blk h1 0 _ rfl, cells_blk ((ht.block ub (Array.getElem?_eq_some_iff.1 hu).1 hub).trans hu) 0 _ rfl⟩)
  have HK := Lib.hid (k_sync (h.below (Below.refl _ w).drew) hst u hnu)
  have HT := Lib.hid (Tr.of_below (Below.refl w.heap.size w).drew G)
  clear hl hf ho hob h hu hub
  go_enter Try.func57, Try.ntmps57
  go_wp2_with fail
  refine wp_region_noPanic ?_
  refine wp_region_held_drew (S := fun W => W.cell? ⟨ob, 0, none⟩ = some (pv lb) ∧ W.cell? ⟨lb, 0, none⟩ = some (pv p) ∧ W.cell? ⟨ub, 0, none⟩ = some (.string (S u))) (by kernel_rfl) (SS.out _ _ (Tr.refl _ G)) (fun hHeld => ?_)
  refine held_take (i := 0) (v := ?_) rfl (by kernel_rfl) (by kernel_rfl) (by kernel_rfl) (fun _ _ _ h => h) (by rfl) hHeld ?y1_0 ?_
  case y1_0 => (intro w hSw; (try dsimp only at hSw); go_simp; try with_reducible rfl)
  try simp only [Act.put, List.setIfInBounds_toArray, List.set_cons_zero, List.set_cons_succ]
  refine held_take (i := 1) (v := ?_) rfl (by kernel_rfl) (by kernel_rfl) (by kernel_rfl) (fun _ _ _ h => h) (by rfl) hHeld ?y1_1 ?_
  case y1_1 => (intro w hSw; (try dsimp only at hSw); go_simp; try with_reducible rfl)
  try simp only [Act.put, List.setIfInBounds_toArray, List.set_cons_zero, List.set_cons_succ]
  refine held_take (i := 2) (v := ?_) rfl (by kernel_rfl) (by kernel_rfl) (by kernel_rfl) (fun _ _ _ h => h) (by rfl) hHeld ?y1_2 ?_
  case y1_2 => (intro w hSw; (try dsimp only at hSw); go_simp; try with_reducible rfl)
  try simp only [Act.put, List.setIfInBounds_toArray, List.set_cons_zero, List.set_cons_succ]
  refine held_take (i := 3) (v := ?_) rfl (by kernel_rfl) (by kernel_rfl) (by kernel_rfl) (fun _ _ _ h => h) (by rfl) hHeld ?y1_3 ?_
  case y1_3 => (intro w hSw; (try dsimp only at hSw); go_simp; try with_reducible rfl)
  try simp only [Act.put, List.setIfInBounds_toArray, List.set_cons_zero, List.set_cons_succ]
  refine held_take (i := 4) (v := ?_) rfl (by kernel_rfl) (by kernel_rfl) (by kernel_rfl) (fun _ _ _ h => h) (by rfl) hHeld ?y1_4 ?_
  case y1_4 => (intro w hSw; (try dsimp only at hSw); go_simp; try with_reducible rfl)
  try simp only [Act.put, List.setIfInBounds_toArray, List.set_cons_zero, List.set_cons_succ]
  refine held_one (i := 5) (by kernel_rfl) rfl (fun K hK => ?_)
  (refine step_call (by rfl) _ _ (by rfl) Try.func22 (by kernel_rfl) (by kernel_rfl) (by simp only [List.map_toArray, List.map_cons, List.map_nil]; rfl) (HK.out.mono ?_); rintro e W2 ⟨rfl, G2, hk2, ht2⟩; have hS5 := SS.out _ _ ht2; refine ⟨_, rfl, ?_⟩)
  refine hK.out _ _ ?_ (fun hHeld => ?_)
  · exact hS5
  clear hK K
  try simp only [Act.put, List.setIfInBounds_toArray, List.set_cons_zero, List.set_cons_succ]
  refine held_take (i := 6) (v := ?_) rfl (by kernel_rfl) (by kernel_rfl) (by kernel_rfl) (fun _ _ _ h => h) (by rfl) hHeld ?y1_6 ?_
  case y1_6 => (intro w hSw; (try dsimp only at hSw); go_simp; try with_reducible rfl)
  try simp only [Act.put, List.setIfInBounds_toArray, List.set_cons_zero, List.set_cons_succ]
  refine wpAnyH_done (by kernel_rfl) ?_ _
  refine NoPanic.normal ?_
  have HK2 := Lib.hid hk2
  have HT2 := Lib.hid (HT.out.trans ht2)
  clear hk2 ht2 hS5 HK HT SS hHeld
  go_wp2_with fail
  go_ret
  exact ⟨rfl, G2, HK2.out, HT2.out⟩

set_option maxRecDepth 100000 in
set_option maxHeartbeats 1000000 in
theorem cuts4 (h : Dk B p w0 G d w) (hst : d.steps < 1000000000) {lb ob ub : Nat} {nm u : Nm} {ng : Int} {br : Bool} (hl : Lg w lb p nm ng br) (hf : ¬ G.has lb) (ho : w.heap[ob]? = some (.cells #[pv lb] 26)) (hob : ¬ G.has ob) (hu : w.heap[ub]? = some (.cells #[.string (S u)] 9)) (hub : ¬ G.has ub) (hn : nm.length ≤ 1000000) (hnu : u.length ≤ 1000000) :
    Calls Try.prog 58 #[.pointer (some ⟨ob, 0, none⟩), .pointer (some ⟨ub, 0, none⟩)] w fun e w' => e = .returned (.int .i64 (d.rename u nm).1) ∧ ∃ G', Dk B p w0 G' (d.rename u nm).2 w' ∧ Tr w G w' G' := by
  have SS : Hid (∀ W' G', Tr w.drew G W' G' → W'.cell? ⟨ob, 0, none⟩ = some (pv lb) ∧ W'.cell? ⟨lb, 0, none⟩ = some (pv p) ∧ W'.cell? ⟨ub, 0, none⟩ = some (.string (S u)) ∧ W'.cell? ⟨lb, 1, none⟩ = some (.string (S nm))) := Lib.hid (fun W' G' ht => by
    have h1 := (ht.block lb (Array.getElem?_eq_some_iff.1 hl).1 hf).trans hl
    exact ⟨cells_blk ((ht.block ob (Array.getElem?_eq_some_iff.1 ho).1 hob).trans ho) 0 _ rfl, cells_blk h1 0 _ rfl, cells_blk ((ht.block ub (Array.getElem?_eq_some_iff.1 hu).1 hub).trans hu) 0 _ rfl, cells_blk h1 1 _ rfl⟩)
  have HK := Lib.hid (k_rename (h.below (Below.refl _ w).drew) hst u nm hnu hn)
  have HT := Lib.hid (Tr.of_below (Below.refl w.heap.size w).drew G)
  clear hl hf ho hob h hu hub
  go_enter Try.func58, Try.ntmps58
  go_wp2_with fail
  refine wp_region_noPanic ?_
  refine wp_region_held_drew (S := fun W => W.cell? ⟨ob, 0, none⟩ = some (pv lb) ∧ W.cell? ⟨lb, 0, none⟩ = some (pv p) ∧ W.cell? ⟨ub, 0, none⟩ = some (.string (S u)) ∧ W.cell? ⟨lb, 1, none⟩ = some (.string (S nm))) (by kernel_rfl) (SS.out _ _ (Tr.refl _ G)) (fun hHeld => ?_)
  refine held_take (i := 0) (v := ?_) rfl (by kernel_rfl) (by kernel_rfl) (by kernel_rfl) (fun _ _ _ h => h) (by rfl) hHeld ?y1_0 ?_
  case y1_0 => (intro w hSw; (try dsimp only at hSw); go_simp; try with_reducible rfl)
  try simp only [Act.put, List.setIfInBounds_toArray, List.set_cons_zero, List.set_cons_succ]
  refine held_take (i := 1) (v := ?_) rfl (by kernel_rfl) (by kernel_rfl) (by kernel_rfl) (fun _ _ _ h => h) (by rfl) hHeld ?y1_1 ?_
  case y1_1 => (intro w hSw; (try dsimp only at hSw); go_simp; try with_reducible rfl)
  try simp only [Act.put, List.setIfInBounds_toArray, List.set_cons_zero, List.set_cons_succ]
  refine held_take (i := 2) (v := ?_) rfl (by kernel_rfl) (by kernel_rfl) (by kernel_rfl) (fun _ _ _ h => h) (by rfl) hHeld ?y1_2 ?_
  case y1_2 => (intro w hSw; (try dsimp only at hSw); go_simp; try with_reducible rfl)
  try simp only [Act.put, List.setIfInBounds_toArray, List.set_cons_zero, List.set_cons_succ]
  refine held_take (i := 3) (v := ?_) rfl (by kernel_rfl) (by kernel_rfl) (by kernel_rfl) (fun _ _ _ h => h) (by rfl) hHeld ?y1_3 ?_
  case y1_3 => (intro w hSw; (try dsimp only at hSw); go_simp; try with_reducible rfl)
  try simp only [Act.put, List.setIfInBounds_toArray, List.set_cons_zero, List.set_cons_succ]
  refine held_take (i := 4) (v := ?_) rfl (by kernel_rfl) (by kernel_rfl) (by kernel_rfl) (fun _ _ _ h => h) (by rfl) hHeld ?y1_4 ?_
  case y1_4 => (intro w hSw; (try dsimp only at hSw); go_simp; try with_reducible rfl)
  try simp only [Act.put, List.setIfInBounds_toArray, List.set_cons_zero, List.set_cons_succ]
  refine held_take (i := 5) (v := ?_) rfl (by kernel_rfl) (by kernel_rfl) (by kernel_rfl) (fun _ _ _ h => h) (by rfl) hHeld ?y1_5 ?_
  case y1_5 => (intro w hSw; (try dsimp only at hSw); go_simp; try with_reducible rfl)
  try simp only [Act.put, List.setIfInBounds_toArray, List.set_cons_zero, List.set_cons_succ]
  refine held_take (i := 6) (v := ?_) rfl (by kernel_rfl) (by kernel_rfl) (by kernel_rfl) (fun _ _ _ h => h) (by rfl) hHeld ?y1_6 ?_
  case y1_6 => (intro w hSw; (try dsimp only at hSw); go_simp; try with_reducible rfl)
  try simp only [Act.put, List.setIfInBounds_toArray, List.set_cons_zero, List.set_cons_succ]
  refine held_take (i := 7) (v := ?_) rfl (by kernel_rfl) (by kernel_rfl) (by kernel_rfl) (fun _ _ _ h => h) (by rfl) hHeld ?y1_7 ?_
  case y1_7 => (intro w hSw; (try dsimp only at hSw); go_simp; try with_reducible rfl)
  try simp only [Act.put, List.setIfInBounds_toArray, List.set_cons_zero, List.set_cons_succ]
  refine held_take (i := 8) (v := ?_) rfl (by kernel_rfl) (by kernel_rfl) (by kernel_rfl) (fun _ _ _ h => h) (by rfl) hHeld ?y1_8 ?_
  case y1_8 => (intro w hSw; (try dsimp only at hSw); go_simp; try with_reducible rfl)
  try simp only [Act.put, List.setIfInBounds_toArray, List.set_cons_zero, List.set_cons_succ]
  refine held_one (i := 9) (by kernel_rfl) rfl (fun K hK => ?_)
  (refine step_call (by rfl) _ _ (by rfl) Try.func59 (by kernel_rfl) (by kernel_rfl) (by simp only [List.map_toArray, List.map_cons, List.map_nil]; rfl) (HK.out.mono ?_); rintro e W2 ⟨rfl, G2, hk2, ht2⟩; have hS9 := SS.out _ _ ht2; refine ⟨_, rfl, ?_⟩)
  refine hK.out _ _ ?_ (fun hHeld => ?_)
  · exact hS9
  clear hK K
  try simp only [Act.put, List.setIfInBounds_toArray, List.set_cons_zero, List.set_cons_succ]
  refine held_take (i := 10) (v := ?_) rfl (by kernel_rfl) (by kernel_rfl) (by kernel_rfl) (fun _ _ _ h => h) (by rfl) hHeld ?y1_10 ?_
  case y1_10 => (intro w hSw; (try dsimp only at hSw); go_simp; try with_reducible rfl)
  try simp only [Act.put, List.setIfInBounds_toArray, List.set_cons_zero, List.set_cons_succ]
  refine wpAnyH_done (by kernel_rfl) ?_ _
  refine NoPanic.normal ?_
  have HK2 := Lib.hid hk2
  have HT2 := Lib.hid (HT.out.trans ht2)
  clear hk2 ht2 hS9 HK HT SS hHeld
  go_wp2_with fail
  go_ret
  exact ⟨rfl, G2, HK2.out, HT2.out⟩

/-- The cut's steps. -/
theorem cuts_steps (h : Dk B p w0 G d w) (hst : d.steps + 30 < 1000000000) {lb : Nat} {nm : Nm} {ng : Int} {br : Bool} (hl : Lg w lb p nm ng br) (hf : ¬ G.has lb) (hn : nm.length ≤ 1000000) {v : Value} {xs : List Int} (hr : RdB w v xs) (hxs : By xs) (hfar : Far G v) (hq : -9223372036854775808 ≤ d.quota ∧ d.quota < 9223372036854775808)
    (X : World) (hB : Below w.heap.size w X) (ho : X.heap[w.heap.size]? = some (.cells #[pv lb] 26)) (hx : X.heap[w.heap.size + 1]? = some (.cells #[v] 22)) (hu : X.heap[w.heap.size + 2]? = some (.cells #[.string (S newN)] 9))
    (hrow : X.heap[w.heap.size + 3]? = some (.cells #[.func (.func 55) #[] #[.pointer (some ⟨w.heap.size, 0, none⟩), .pointer (some ⟨w.heap.size + 2, 0, none⟩)], .func (.func 56) #[] #[.pointer (some ⟨w.heap.size, 0, none⟩), .pointer (some ⟨w.heap.size + 2, 0, none⟩), .pointer (some ⟨w.heap.size + 1, 0, none⟩)], .func (.func 57) #[] #[.pointer (some ⟨w.heap.size, 0, none⟩), .pointer (some ⟨w.heap.size + 2, 0, none⟩)], .func (.func 58) #[] #[.pointer (some ⟨w.heap.size, 0, none⟩), .pointer (some ⟨w.heap.size + 2, 0, none⟩)], .func (.func 23) #[pv p] #[]] 35)) :
    Calls Try.prog 35 #[.slice (some ⟨w.heap.size + 3, 0, none⟩) 5 5] X fun e w' => e = .returned (.int .i64 (runL [fun d => d.create newN, fun d => d.append newN xs, fun d => d.sync newN, fun d => d.rename newN nm, DS.syncDir] d).1) ∧ ∃ G', Dk B p w0 G' (runL [fun d => d.create newN, fun d => d.append newN xs, fun d => d.sync newN, fun d => d.rename newN nm, DS.syncDir] d).2 w' ∧ Tr X G w' G' := by
  have hlX := hl.tr hf (Tr.of_below hB G)
  have hk : ∀ k, w.heap.size ≤ k → ¬ G.has k := fun k hk hh => by have := (h.at_.has_lt hh).2; omega
  have hrX := hr.below hB
  have hnn : newN.length ≤ 1000000 := by decide
  refine steps_disk (w.heap.size + 3) 5 (fun k => ([55, 56, 57, 58, 23] : List FuncId).getD k 0) (fun k => ([#[], #[], #[], #[], #[pv p]] : List (Array Value)).getD k #[]) (fun k => ([#[.pointer (some ⟨w.heap.size, 0, none⟩), .pointer (some ⟨w.heap.size + 2, 0, none⟩)], #[.pointer (some ⟨w.heap.size, 0, none⟩), .pointer (some ⟨w.heap.size + 2, 0, none⟩), .pointer (some ⟨w.heap.size + 1, 0, none⟩)], #[.pointer (some ⟨w.heap.size, 0, none⟩), .pointer (some ⟨w.heap.size + 2, 0, none⟩)], #[.pointer (some ⟨w.heap.size, 0, none⟩), .pointer (some ⟨w.heap.size + 2, 0, none⟩)], #[]] : List (Array Value)).getD k #[])
    [fun d => d.create newN, fun d => d.append newN xs, fun d => d.sync newN, fun d => d.rename newN nm, DS.syncDir] rfl (by omega) 0 (h.below hB) (by omega)
    (fun k hk => by
      match k, hk with
      | 0, _ => exact cells_blk hrow 0 _ rfl
      | 1, _ => exact cells_blk hrow 1 _ rfl
      | 2, _ => exact cells_blk hrow 2 _ rfl
      | 3, _ => exact cells_blk hrow 3 _ rfl
      | 4, _ => exact cells_blk hrow 4 _ rfl)
    (hk _ (by omega)) (Array.getElem?_eq_some_iff.1 hrow).1
    (fun k hk => by
      match k, hk with
      | 0, _ => exact enters_of Try.func55 (by kernel_rfl) rfl
      | 1, _ => exact enters_of Try.func56 (by kernel_rfl) rfl
      | 2, _ => exact enters_of Try.func57 (by kernel_rfl) rfl
      | 3, _ => exact enters_of Try.func58 (by kernel_rfl) rfl
      | 4, _ => exact enters_of Try.func23 (by kernel_rfl) rfl)
    (fun k f hf' G' dk W hd ht hs hq2 => by
      have b0 := (ht.block _ (Array.getElem?_eq_some_iff.1 ho).1 (hk _ (Nat.le_refl _))).trans ho
      have b2 := (ht.block _ (Array.getElem?_eq_some_iff.1 hu).1 (hk _ (by omega))).trans hu
      have n0 : ¬ G'.has w.heap.size := fun hh => hk _ (Nat.le_refl _) (ht.foot _ (Array.getElem?_eq_some_iff.1 ho).1 hh)
      have n2 : ¬ G'.has (w.heap.size + 2) := fun hh => hk _ (by omega) (ht.foot _ (Array.getElem?_eq_some_iff.1 hu).1 hh)
      match k, hf' with
      | 0, hf' =>
        injection hf' with hf'
        subst hf'
        exact cuts1 hd (by omega) (hlX.1.tr hlX.2 ht).1 (hlX.1.tr hlX.2 ht).2 b0 n0 b2 n2 hnn
      | 1, hf' =>
        injection hf' with hf'
        subst hf'
        have b1 := (ht.block _ (Array.getElem?_eq_some_iff.1 hx).1 (hk _ (by omega))).trans hx
        have n1 : ¬ G'.has (w.heap.size + 1) := fun hh => hk _ (by omega) (ht.foot _ (Array.getElem?_eq_some_iff.1 hx).1 hh)
        obtain ⟨r1, r2⟩ := Far.rd hrX hfar ht
        exact cuts2 hd (by omega) (hlX.1.tr hlX.2 ht).1 (hlX.1.tr hlX.2 ht).2 b0 n0 b2 n2 b1 n1 r1 hxs r2 (by rw [hq2]; exact hq) hnn
      | 2, hf' =>
        injection hf' with hf'
        subst hf'
        exact cuts3 hd (by omega) (hlX.1.tr hlX.2 ht).1 (hlX.1.tr hlX.2 ht).2 b0 n0 b2 n2 hnn
      | 3, hf' =>
        injection hf' with hf'
        subst hf'
        exact cuts4 hd (by omega) (hlX.1.tr hlX.2 ht).1 (hlX.1.tr hlX.2 ht).2 b0 n0 b2 n2 hn hnn
      | 4, hf' =>
        injection hf' with hf'
        subst hf'
        exact k_syncDir hd (by omega)
      | k + 5, hf' => cases hf')
    (fun f hf' dk => by
      rcases List.mem_cons.1 hf' with rfl | hf'
      · exact ⟨by have := (create_stepsq dk newN).1; dsimp only; omega, (create_stepsq dk newN).2⟩
      rcases List.mem_cons.1 hf' with rfl | hf'
      · exact ⟨by have := (append_stepsq dk newN xs).1; dsimp only; omega, (append_stepsq dk newN xs).2⟩
      rcases List.mem_cons.1 hf' with rfl | hf'
      · exact ⟨by have := (sync_steps dk newN).1; dsimp only; omega, (sync_steps dk newN).2⟩
      rcases List.mem_cons.1 hf' with rfl | hf'
      · exact ⟨by have := (rename_steps dk newN nm).1; dsimp only; omega, (rename_steps dk newN nm).2⟩
      rcases List.mem_cons.1 hf' with rfl | hf'
      · exact ⟨by have := (syncDir_steps dk).1; omega, (syncDir_steps dk).2⟩
      · cases hf')
theorem runL_steps : ∀ (ops : List (DS → Int × DS)) (d : DS), (∀ f ∈ ops, ∀ dk : DS, (f dk).2.steps ≤ dk.steps + 1) → (runL ops d).2.steps ≤ d.steps + ops.length
  | [], d, _ => by show d.steps ≤ d.steps + 0; omega
  | f :: fs, d, h => by
    have h1 := h f (by simp) d
    have h2 := runL_steps fs (f d).2 (fun g hg => h g (by simp [hg]))
    unfold runL
    split
    · rw [List.length_cons]; omega
    · rw [List.length_cons]; omega
set_option maxRecDepth 100000 in
set_option maxHeartbeats 4000000 in
theorem wal_cuts (h : Dk B p w0 G d w) (hst : d.steps + 30 < 1000000000) {lb : Nat} {nm : Nm} {ng : Int} {br : Bool} (hl : Lg w lb p nm ng br) (hf : ¬ G.has lb) (hn : nm.length ≤ 1000000) (hne : nm ≠ newN) {v : Value} {xs : List Int} (hr : RdB w v xs) (hxs : By xs) (hfar : Far G v) (hq : -9223372036854775808 ≤ d.quota ∧ d.quota < 9223372036854775808) :
    Calls Try.prog 32 #[pv lb, v] w fun e w' => e = .returned (.int .i64 (cutsW nm xs d).1) ∧ ∃ G', Dk B p w0 G' (cutsW nm xs d).2 w' ∧ Tr w G w' G' := by
  have KS := Lib.hid (cuts_steps h hst hl hf hn hr hxs hfar hq)
  have HD := Lib.hid h
  have HLG := Lib.hid hl
  have HF := Lib.hid hf
  have l0 := cells_blk hl 0 _ rfl
  have l1 := cells_blk hl 1 _ rfl
  have hlt := (Array.getElem?_eq_some_iff.1 hl).1
  obtain ⟨A, c, rfl, -, -⟩ := hr
  have hcmp : ((S nm).toList == [108, 111, 103, 46, 110, 101, 119]) = false := by
    have h1 := S_eq nm newN
    rw [decide_eq_false hne] at h1
    have h2 : (S newN).toList = [108, 111, 103, 46, 110, 101, 119] := by decide +kernel
    rwa [h2] at h1
  obtain ⟨r, hrr⟩ : ∃ r, runL [fun d => d.create newN, fun d => d.append newN xs, fun d => d.sync newN, fun d => d.rename newN nm, DS.syncDir] d = r := ⟨_, rfl⟩
  have hrs : r.2.steps ≤ d.steps + 5 := by
    rw [← hrr]
    refine runL_steps _ d (fun f hf' dk => ?_)
    rcases List.mem_cons.1 hf' with rfl | hf'
    · have := (create_stepsq dk newN).1; dsimp only; omega
    rcases List.mem_cons.1 hf' with rfl | hf'
    · have := (append_stepsq dk newN xs).1; dsimp only; omega
    rcases List.mem_cons.1 hf' with rfl | hf'
    · have := (sync_steps dk newN).1; dsimp only; omega
    rcases List.mem_cons.1 hf' with rfl | hf'
    · have := (rename_steps dk newN nm).1; dsimp only; omega
    rcases List.mem_cons.1 hf' with rfl | hf'
    · have := (syncDir_steps dk).1; omega
    · cases hf'
  have hcw : cutsW nm xs d = if r.1 = 201 then (201, (r.2.remove newN).2) else r := by
    unfold cutsW otherN
    rw [if_neg hne]
    simp only
    rw [hrr]
  rw [hcw]
  rw [hrr] at KS
  obtain ⟨er, dr⟩ := r
  dsimp only at hrs
  have HRS := Lib.hid hrs
  clear h hl hf hxs hfar hrr hcw hne hrs
  go_enter Try.func32, Try.ntmps32
  go_wp2_with fail
  have hB3 := (((Below.refl w.heap.size w).alloc (Nat.le_refl _) (.cells #[pv lb] 26)).alloc (by simp) (.cells #[.slice A xs.length c] 22)).alloc (by simp; omega) (.cells #[.string (S newN)] 9)
  have hb0 : (((w.alloc (.cells #[pv lb] 26)).alloc (.cells #[.slice A xs.length c] 22)).alloc (.cells #[.string (S newN)] 9)).heap[w.heap.size]? = some (.cells #[pv lb] 26) :=
    (Below.heap_alloc _ _ _ (by simp; omega)).trans ((Below.heap_alloc _ _ _ (by simp)).trans (alloc_new w _))
  have hb1 : (((w.alloc (.cells #[pv lb] 26)).alloc (.cells #[.slice A xs.length c] 22)).alloc (.cells #[.string (S newN)] 9)).heap[w.heap.size + 1]? = some (.cells #[.slice A xs.length c] 22) := by
    refine (Below.heap_alloc _ _ _ (by simp)).trans ?_
    have := alloc_new (w.alloc (.cells #[pv lb] 26)) (.cells #[.slice A xs.length c] 22)
    rwa [World.size_alloc] at this
  have hb2 : (((w.alloc (.cells #[pv lb] 26)).alloc (.cells #[.slice A xs.length c] 22)).alloc (.cells #[.string (S newN)] 9)).heap[w.heap.size + 2]? = some (.cells #[.string (S newN)] 9) := by
    have := alloc_new ((w.alloc (.cells #[pv lb] 26)).alloc (.cells #[.slice A xs.length c] 22)) (.cells #[.string (S newN)] 9)
    rwa [World.size_alloc, World.size_alloc] at this
  have hsz : (((w.alloc (.cells #[pv lb] 26)).alloc (.cells #[.slice A xs.length c] 22)).alloc (.cells #[.string (S newN)] 9)).heap.size = w.heap.size + 3 := by simp
  change Code.wp _ _ _ _ (((w.alloc (.cells #[pv lb] 26)).alloc (.cells #[.slice A xs.length c] 22)).alloc (.cells #[.string (S newN)] 9))
  generalize (((w.alloc (.cells #[pv lb] 26)).alloc (.cells #[.slice A xs.length c] 22)).alloc (.cells #[.string (S newN)] 9)) = X at hB3 hb0 hb1 hb2 hsz ⊢
  have m0 := pw_cell_below hB3 l0
  have m1 := pw_cell_below hB3 l1
  have o0 := cells_blk hb0 0 _ rfl
  have u0 : X.cell? ⟨w.heap.size + 1 + 1, 0, none⟩ = some (.string { data := #[108, 111, 103, 46, 110, 101, 119] }) := cells_blk hb2 0 _ rfl
  have HB3 := Lib.hid hB3
  have H0 := Lib.hid hb0
  have H1 := Lib.hid hb1
  have H2 := Lib.hid hb2
  clear hB3 hb0 hb1 hb2 l0 l1
  go_quiet (fail)
  all_goals go_wp2_with fail
  have hbd := pw_below_drewN (Below.refl X.heap.size X) nq
  have hds : (X.drewN nq).heap.size = w.heap.size + 3 := by simp [hsz]
  have hY := alloc_new (X.drewN nq) (.cells #[.func (.func 55) #[] #[.pointer (some ⟨w.heap.size, 0, none⟩), .pointer (some ⟨w.heap.size + 1 + 1, 0, none⟩)], .func (.func 56) #[] #[.pointer (some ⟨w.heap.size, 0, none⟩), .pointer (some ⟨w.heap.size + 1 + 1, 0, none⟩), .pointer (some ⟨w.heap.size + 1, 0, none⟩)], .func (.func 57) #[] #[.pointer (some ⟨w.heap.size, 0, none⟩), .pointer (some ⟨w.heap.size + 1 + 1, 0, none⟩)], .func (.func 58) #[] #[.pointer (some ⟨w.heap.size, 0, none⟩), .pointer (some ⟨w.heap.size + 1 + 1, 0, none⟩)], .func (.func 23) #[pv p] #[]] 35)
  rw [hds] at hY
  have hbY := (pw_below_drewN HB3.out nq).alloc (by rw [hds]; omega) (.cells #[.func (.func 55) #[] #[.pointer (some ⟨w.heap.size, 0, none⟩), .pointer (some ⟨w.heap.size + 1 + 1, 0, none⟩)], .func (.func 56) #[] #[.pointer (some ⟨w.heap.size, 0, none⟩), .pointer (some ⟨w.heap.size + 1 + 1, 0, none⟩), .pointer (some ⟨w.heap.size + 1, 0, none⟩)], .func (.func 57) #[] #[.pointer (some ⟨w.heap.size, 0, none⟩), .pointer (some ⟨w.heap.size + 1 + 1, 0, none⟩)], .func (.func 58) #[] #[.pointer (some ⟨w.heap.size, 0, none⟩), .pointer (some ⟨w.heap.size + 1 + 1, 0, none⟩)], .func (.func 23) #[pv p] #[]] 35)
  have old : ∀ k o, k < w.heap.size + 3 → X.heap[k]? = some o → ((X.drewN nq).alloc (.cells #[.func (.func 55) #[] #[.pointer (some ⟨w.heap.size, 0, none⟩), .pointer (some ⟨w.heap.size + 1 + 1, 0, none⟩)], .func (.func 56) #[] #[.pointer (some ⟨w.heap.size, 0, none⟩), .pointer (some ⟨w.heap.size + 1 + 1, 0, none⟩), .pointer (some ⟨w.heap.size + 1, 0, none⟩)], .func (.func 57) #[] #[.pointer (some ⟨w.heap.size, 0, none⟩), .pointer (some ⟨w.heap.size + 1 + 1, 0, none⟩)], .func (.func 58) #[] #[.pointer (some ⟨w.heap.size, 0, none⟩), .pointer (some ⟨w.heap.size + 1 + 1, 0, none⟩)], .func (.func 23) #[pv p] #[]] 35)).heap[k]? = some o := fun k o hk ho =>
    (Below.heap_alloc _ _ _ (by rw [hds]; exact hk)).trans ((hbd.block k (by rw [hsz]; exact hk)).trans ho)
  have K4 := Lib.hid (KS.out _ hbY (old _ _ (by omega) H0.out) (old _ _ (by omega) H1.out) (old _ _ (by omega) H2.out) hY)
  have HT4 := Lib.hid (Tr.of_below hbY G)
  have HL4 := Lib.hid (HLG.out.tr HF.out HT4.out)
  have Y0 := Lib.hid (old _ _ (by omega) H0.out)
  have Y2 := Lib.hid (old _ _ (by omega) H2.out)
  have hfre : ∀ k, w.heap.size ≤ k → ¬ G.has k := fun k hk hh => by have := (HD.out.at_.has_lt hh).2; omega
  clear hbd hds hY hbY old KS
  refine K4.out.mono ?_
  rintro e w5 ⟨rfl, G5, hd5, ht5⟩
  have HT5 := Lib.hid (HT4.out.trans ht5)
  have HD5 := Lib.hid hd5
  have q0 := cells_blk (HLG.out.tr HF.out HT5.out).1 0 _ rfl
  have b0 : w5.cell? ⟨w.heap.size, 0, none⟩ = some (pv lb) := cells_blk ((ht5.block _ (Array.getElem?_eq_some_iff.1 Y0.out).1 (hfre _ (Nat.le_refl _))).trans Y0.out) 0 _ rfl
  have b2 : w5.cell? ⟨w.heap.size + 1 + 1, 0, none⟩ = some (.string { data := #[108, 111, 103, 46, 110, 101, 119] }) := cells_blk ((ht5.block _ (Array.getElem?_eq_some_iff.1 Y2.out).1 (hfre _ (by omega))).trans Y2.out) 0 _ rfl
  have SS6 : Hid (∀ W G', Tr w5.drew G5 W G' → W.cell? ⟨w.heap.size, 0, none⟩ = some (pv lb) ∧ W.cell? ⟨lb, 0, none⟩ = some (pv p) ∧ W.cell? ⟨w.heap.size + 1 + 1, 0, none⟩ = some (.string { data := #[108, 111, 103, 46, 110, 101, 119] })) := Lib.hid (fun W G' ht => by
    have hl5 := HLG.out.tr HF.out HT5.out
    have c0 := (ht5.block _ (Array.getElem?_eq_some_iff.1 Y0.out).1 (hfre _ (Nat.le_refl _))).trans Y0.out
    have c2 := (ht5.block _ (Array.getElem?_eq_some_iff.1 Y2.out).1 (hfre _ (by omega))).trans Y2.out
    have n0 : ¬ G5.has w.heap.size := fun hh => hfre _ (Nat.le_refl _) (ht5.foot _ (Array.getElem?_eq_some_iff.1 Y0.out).1 hh)
    have n2 : ¬ G5.has (w.heap.size + 2) := fun hh => hfre _ (by omega) (ht5.foot _ (Array.getElem?_eq_some_iff.1 Y2.out).1 hh)
    exact ⟨cells_blk ((ht.block _ (Array.getElem?_eq_some_iff.1 c0).1 n0).trans c0) 0 _ rfl, cells_blk ((ht.block _ (Array.getElem?_eq_some_iff.1 hl5.1).1 hl5.2).trans hl5.1) 0 _ rfl, cells_blk ((ht.block _ (Array.getElem?_eq_some_iff.1 c2).1 n2).trans c2) 0 _ rfl⟩)
  clear hd5 ht5 K4 HT4 HL4 o0 u0 m0 m1 Y0 Y2 hfre
  by_cases h201 : er = 201
  · subst h201
    have KR := Lib.hid (k_remove (HD5.out.below (Below.refl _ w5).drew) (by have := HRS.out; omega) newN (by decide))
    rw [show S newN = { data := #[108, 111, 103, 46, 110, 101, 119] } from rfl] at KR
    go_wp2_with fail
    refine wp_region_noPanic ?_
    refine wp_region_held_drew (S := fun W => W.cell? ⟨w.heap.size, 0, none⟩ = some (pv lb) ∧ W.cell? ⟨lb, 0, none⟩ = some (pv p) ∧ W.cell? ⟨w.heap.size + 1 + 1, 0, none⟩ = some (.string { data := #[108, 111, 103, 46, 110, 101, 119] })) (by kernel_rfl) ⟨b0, q0, b2⟩ (fun hHeld => ?_)
    refine held_take (i := 0) (v := ?_) rfl (by kernel_rfl) (by kernel_rfl) (by kernel_rfl) (fun _ _ _ h => h) (by rfl) hHeld ?y6_0 ?_
    case y6_0 => (intro w hSw; (try dsimp only at hSw); go_simp; try with_reducible rfl)
    try simp only [Act.put, List.setIfInBounds_toArray, List.set_cons_zero, List.set_cons_succ]
    refine held_take (i := 1) (v := ?_) rfl (by kernel_rfl) (by kernel_rfl) (by kernel_rfl) (fun _ _ _ h => h) (by rfl) hHeld ?y6_1 ?_
    case y6_1 => (intro w hSw; (try dsimp only at hSw); go_simp; try with_reducible rfl)
    try simp only [Act.put, List.setIfInBounds_toArray, List.set_cons_zero, List.set_cons_succ]
    refine held_take (i := 2) (v := ?_) rfl (by kernel_rfl) (by kernel_rfl) (by kernel_rfl) (fun _ _ _ h => h) (by rfl) hHeld ?y6_2 ?_
    case y6_2 => (intro w hSw; (try dsimp only at hSw); go_simp; try with_reducible rfl)
    try simp only [Act.put, List.setIfInBounds_toArray, List.set_cons_zero, List.set_cons_succ]
    refine held_take (i := 3) (v := ?_) rfl (by kernel_rfl) (by kernel_rfl) (by kernel_rfl) (fun _ _ _ h => h) (by rfl) hHeld ?y6_3 ?_
    case y6_3 => (intro w hSw; (try dsimp only at hSw); go_simp; try with_reducible rfl)
    try simp only [Act.put, List.setIfInBounds_toArray, List.set_cons_zero, List.set_cons_succ]
    refine held_take (i := 4) (v := ?_) rfl (by kernel_rfl) (by kernel_rfl) (by kernel_rfl) (fun _ _ _ h => h) (by rfl) hHeld ?y6_4 ?_
    case y6_4 => (intro w hSw; (try dsimp only at hSw); go_simp; try with_reducible rfl)
    try simp only [Act.put, List.setIfInBounds_toArray, List.set_cons_zero, List.set_cons_succ]
    refine held_one (i := 5) (by kernel_rfl) rfl (fun K hK => ?_)
    (refine step_call (by rfl) _ _ (by rfl) Try.func60 (by kernel_rfl) (by kernel_rfl) (by simp only [List.map_toArray, List.map_cons, List.map_nil]; rfl) (KR.out.mono ?_); rintro e W2 ⟨rfl, G2, hk2, ht2⟩; have hS5 := SS6.out _ _ ht2; refine ⟨_, rfl, ?_⟩)
    refine hK.out _ _ ?_ (fun hHeld => ?_)
    · exact hS5
    clear hK K
    try simp only [Act.put, List.setIfInBounds_toArray, List.set_cons_zero, List.set_cons_succ]
    refine wpAnyH_done (by kernel_rfl) ?_ _
    refine NoPanic.normal ?_
    have HD6 := Lib.hid hk2
    have HT6 := Lib.hid (HT5.out.trans ((Tr.of_below (Below.refl w5.heap.size w5).drew G5).trans ht2))
    clear hk2 ht2 KR hHeld
    go_wp2_with fail
    go_ret
    exact ⟨rfl, G2, HD6.out, HT6.out⟩
  · have h201' : (er == 201) = false := by rw [beq_eq_false_iff_ne]; exact h201
    go_wp2_with fail
    go_ret
    exact ⟨rfl, G5, HD5.out, HT5.out⟩
end Go.Proofs.Ytmdecbockpgagaa
