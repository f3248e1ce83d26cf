import Derived.Test.YtmdecbockpgagaaWalTorn
/- A log's disk behind a call that fell, as plain data: what lies there, and what a crash leaves of it. -/
namespace Go.Proofs.Ytmdecbockpgagaa
open Go.RowKit
variable {q fa oa : Int} {st i k : Nat} {fs : List Fl} {kp : NM} {si : List Chg} {b e : List Int} {d : DS}

theorem set_same {fs : List Fl} {i : Nat} {f : Fl} (h : fs[i]? = some f) : fs.set i f = fs := by
  refine List.ext_getElem? (fun j => ?_)
  rw [List.getElem?_set]
  by_cases e : i = j
  · subst e
    have := (List.getElem?_eq_some_iff.1 h).1
    simp [this]
    exact ((List.getElem?_eq_some_iff.1 h).2).symm
  · rw [if_neg e]
/-- What a crash of a disk comes to: a log that is kept, its bytes so. -/
def Crashes (q : Int) (st : Nat) (P : List Int → Prop) (d : DS) : Prop := ∀ cs, ∃ b, IsLog q st b (d.crash cs) ∧ P b
theorem Crashes.imp {P Q : List Int → Prop} (h : Crashes q st P d) (hi : ∀ b, P b → Q b) : Crashes q st Q d := fun cs => by
  obtain ⟨b, h1, h2⟩ := h cs
  exact ⟨b, h1, hi b h2⟩
theorem fellB_left (b e : List Int) (a z : Nat) (ha : a ≤ e.length) (hz : z ≤ a) : fellB ⟨b ++ e, b.length⟩ a z = b ++ left e (a - z) z := by
  unfold fellB left
  dsimp only
  have h1 : ((b ++ e).take (b.length + a)).length = b.length + a := by rw [List.length_take, List.length_append]; omega
  rw [h1, List.take_take, Nat.min_eq_left (by omega), Nat.min_eq_left (by omega), show b.length + a - z = b.length + (a - z) by omega, List.take_append, List.take_of_length_le (by omega), Nat.add_sub_cancel_left, List.append_assoc]
/-- A file of which the end is not kept. -/
theorem half_crash (hf : fs[i]? = some ⟨b ++ e, b.length⟩) : Crashes q st (fun b' => ∃ c z, c + z ≤ e.length ∧ b' = b ++ left e c z) (ld q st fa oa i fs [(lgN, i)] []) := fun cs => by
  have hlt := (List.getElem?_eq_some_iff.1 hf).1
  have key : ∀ c : List Int, ∃ x z, x + z ≤ e.length ∧ (crashF fs [(lgN, i)] c).1 = fs.set i ⟨b ++ left e x z, (b ++ left e x z).length⟩ := fun c => by
    rw [crashF_step fs (lgN, i) [] c ⟨b ++ e, b.length⟩ hf]
    dsimp only
    have hl : (b ++ e).length - b.length = e.length := by rw [List.length_append]; omega
    rw [hl]
    have ha := pick1_le c e.length
    have hz := pick1_le (pick1 c e.length).2 (pick1 c e.length).1
    refine ⟨(pick1 c e.length).1 - (pick1 (pick1 c e.length).2 (pick1 c e.length).1).1, (pick1 (pick1 c e.length).2 (pick1 c e.length).1).1, by omega, ?_⟩
    rw [fellB_left b e _ _ ha hz]
    show fs.set i _ = _
    congr 2
    rw [List.length_take, List.length_append, List.length_append, left_length _ _ _ (by omega)]
    omega
  obtain ⟨x, z, hxz, hk⟩ := key (pick1 cs 0).2
  refine ⟨b ++ left e x z, ⟨i, _, ?_, set_at _ hf⟩, x, z, hxz, rfl⟩
  unfold DS.crash
  simp only
  have h1 : (ld q st fa oa i fs [(lgN, i)] []).since = [] := rfl
  rw [h1]
  simp only [List.length_nil, List.take_nil]
  have h2 : replay (ld q st fa oa i fs [(lgN, i)] []).kept [] = some [(lgN, i)] := rfl
  rw [h2, Option.getD_some]
  have h3 : (crashF (ld q st fa oa i fs [(lgN, i)] []).files [(lgN, i)] (pick1 cs 0).2).1 = _ := hk
  rw [h3]
  rfl
/-- A new file under the log's name, that is not kept. -/
theorem clear_crash {i0 : Nat} (h0 : fs[i0]? = some ⟨b, b.length⟩) (hf : fs[i]? = some ⟨[], 0⟩) : Crashes q st (fun b' => b' = b ∨ b' = []) (ld q st fa oa i fs [(lgN, i0)] [⟨some i, [], lgN⟩]) := fun cs => by
  have hp0 : ∀ c : List Int, (pick1 c 0).1 = 0 := fun c => by have := pick1_le c 0; omega
  have key : ∀ (j : Nat) (x : List Int) (c : List Int), fs[j]? = some ⟨x, x.length⟩ → (crashF fs [(lgN, j)] c).1 = fs := fun j x c hj => by
    rw [crashF_step fs (lgN, j) [] c ⟨x, x.length⟩ hj]
    show (fs.set j _) = fs
    simp only [Nat.sub_self, hp0]
    unfold fellB
    simp only [Nat.add_zero, List.take_length, Nat.sub_zero, Nat.zero_min, List.replicate_zero, List.append_nil]
    exact set_same hj
  have hle := pick1_le cs 1
  have hs1 : (ld q st fa oa i fs [(lgN, i0)] [⟨some i, [], lgN⟩]).since = [⟨some i, [], lgN⟩] := rfl
  rcases Nat.eq_zero_or_pos (pick1 cs 1).1 with h | h
  · refine ⟨b, ⟨i0, fs, ?_, h0⟩, .inl rfl⟩
    unfold DS.crash
    simp only [hs1, List.length_cons, List.length_nil, Nat.zero_add, h, List.take_zero]
    have h2 : replay (ld q st fa oa i fs [(lgN, i0)] [⟨some i, [], lgN⟩]).kept [] = some [(lgN, i0)] := rfl
    rw [h2, Option.getD_some]
    have h3 : (crashF (ld q st fa oa i fs [(lgN, i0)] [⟨some i, [], lgN⟩]).files [(lgN, i0)] (pick1 cs 1).2).1 = fs := key i0 b _ h0
    rw [h3]
    rfl
  · have h1 : (pick1 cs 1).1 = 1 := by omega
    refine ⟨[], ⟨i, fs, ?_, hf⟩, .inr rfl⟩
    unfold DS.crash
    simp only [hs1, List.length_cons, List.length_nil, Nat.zero_add, h1]
    have h2 : replay (ld q st fa oa i fs [(lgN, i0)] [⟨some i, [], lgN⟩]).kept (List.take 1 [⟨some i, [], lgN⟩]) = some [(lgN, i)] := by
      show replay [(lgN, i0)] [⟨some i, [], lgN⟩] = _
      unfold replay replay does
      simp [mput, mdel, mins]
    rw [h2, Option.getD_some]
    have h3 : (crashF (ld q st fa oa i fs [(lgN, i0)] [⟨some i, [], lgN⟩]).files [(lgN, i)] (pick1 cs 1).2).1 = fs := key i [] _ hf
    rw [h3]
    rfl
theorem kept_crash (h : fs[i]? = some ⟨b, b.length⟩) : Crashes q st (fun b' => b' = b) (ld q st fa oa i fs [(lgN, i)] []) := by
  have := half_crash (q := q) (st := st) (fa := fa) (oa := oa) (e := []) (by rw [List.append_nil]; exact h)
  refine this.imp (fun b' hb => ?_)
  obtain ⟨c, z, hcz, rfl⟩ := hb
  have hz : z = 0 := by simp at hcz; omega
  subst hz
  rw [left_nil c 0 rfl, List.append_nil]
/-- What a call came to: done; or fallen, with the old bytes or the new ones there. -/
def CallOut (q : Int) (st : Nat) (fa oa : Int) (b nb : List Int) (P : List Int → Prop) (r : Int × DS) : Prop :=
  (r.1 = 0 ∧ ∃ i fs, r.2 = ld q st fa oa i fs [(lgN, i)] [] ∧ fs[i]? = some ⟨nb, nb.length⟩) ∨
  ((r.1 = 202 ∨ r.1 = 203) ∧ (oa = 0 → r.1 = 202) ∧ ∃ i fs k kp si b', r.2 = ld q st fa oa i fs kp si ∧ fs[i]? = some ⟨b', k⟩ ∧ (b' = b ∨ b' = nb) ∧ Crashes q st P r.2)
theorem cd_fell (h : cd st fa oa ≠ 0) : (cd st fa oa = 202 ∨ cd st fa oa = 203) ∧ (oa = 0 → cd st fa oa = 202) := by
  unfold cd at h ⊢
  by_cases h1 : 0 < oa ∧ oa ≤ (st : Int) + 1
  · rw [if_pos h1]
    exact ⟨.inr rfl, fun h => by omega⟩
  · rw [if_neg h1] at h ⊢
    by_cases h2 : (st : Int) + 1 = fa
    · rw [if_pos h2]
      exact ⟨.inl rfl, fun _ => rfl⟩
    · rw [if_neg h2] at h
      exact absurd rfl h
theorem append_out (rs : List Rc) (h : fs[i]? = some ⟨b, b.length⟩) (hq : ((b.length + (encG rs).length : Nat) : Int) ≤ q) (hm : b.length + (encG rs).length ≤ 400000) :
    ∃ st', st' ≤ st + 3 ∧ CallOut q st' fa oa b (b ++ encG rs) (fun b' => ∃ c z, c + z ≤ (encG rs).length ∧ b' = b ++ left (encG rs) c z) (appW lgN rs (ld q st fa oa i fs [(lgN, i)] [])) := by
  have h1 := ld_append (q := q) (st := st) (fa := fa) (oa := oa) (kp := [(lgN, i)]) (si := []) (encG rs) h hq hm
  by_cases c1 : cd st fa oa = 0
  · rw [if_pos c1] at h1
    have h2 := ld_sync (q := q) (st := st + 1) (fa := fa) (oa := oa) (kp := [(lgN, i)]) (si := []) (set_at ⟨b ++ encG rs, b.length⟩ h)
    rw [List.set_set] at h2
    by_cases c2 : cd (st + 1) fa oa = 0
    · rw [if_pos c2] at h2
      exact ⟨st + 2, by omega, .inl (by
        have : appW lgN rs (ld q st fa oa i fs [(lgN, i)] []) = _ := runL_two h1 h2
        rw [this]
        exact ⟨rfl, i, _, rfl, set_at _ h⟩)⟩
    · rw [if_neg c2] at h2
      obtain ⟨f1, f2⟩ := cd_fell c2
      refine ⟨st + 2, by omega, .inr ?_⟩
      have : appW lgN rs (ld q st fa oa i fs [(lgN, i)] []) = (cd (st + 1) fa oa, ld q (st + 1 + 1) fa oa i (fs.set i ⟨b ++ encG rs, b.length⟩) [(lgN, i)] []) := by
        unfold appW
        rw [runL_cons (f := fun d => d.append lgN (encG rs)) h1, runL_stop (f := fun d => d.sync lgN) h2 c2]
      rw [this]
      exact ⟨f1, f2, i, _, _, _, _, _, rfl, set_at _ h, .inr rfl, half_crash (set_at _ h)⟩
  · rw [if_neg c1] at h1
    obtain ⟨f1, f2⟩ := cd_fell c1
    refine ⟨st + 1, by omega, .inr ?_⟩
    have : appW lgN rs (ld q st fa oa i fs [(lgN, i)] []) = (cd st fa oa, ld q (st + 1) fa oa i fs [(lgN, i)] []) := runL_stop (f := fun d => d.append lgN (encG rs)) h1 c1
    rw [this]
    refine ⟨f1, f2, i, _, _, _, _, _, rfl, h, .inl rfl, (kept_crash h).imp (fun b' hb => ⟨0, 0, by omega, ?_⟩)⟩
    rw [hb]
    unfold left
    simp
theorem clear_out (h : fs[i]? = some ⟨b, b.length⟩) :
    ∃ st', st' ≤ st + 3 ∧ CallOut q st' fa oa b [] (fun b' => b' = b ∨ b' = []) (freshW lgN (ld q st fa oa i fs [(lgN, i)] [])) := by
  have h1 := ld_create (q := q) (st := st) (fa := fa) (oa := oa) (i := i) (fs := fs) (kp := [(lgN, i)]) (si := [])
  have hlt := (List.getElem?_eq_some_iff.1 h).1
  by_cases c1 : cd st fa oa = 0
  · rw [if_pos c1] at h1
    have hn := snoc_at fs ⟨[], 0⟩
    have ho : (fs ++ [⟨[], 0⟩])[i]? = some ⟨b, b.length⟩ := by rw [List.getElem?_append_left hlt]; exact h
    have h2 := ld_sync (q := q) (st := st + 1) (fa := fa) (oa := oa) (kp := [(lgN, i)]) (si := [] ++ [⟨some fs.length, [], lgN⟩]) hn
    rw [show (fs ++ [(⟨[], 0⟩ : Fl)]).set fs.length (⟨[], ([] : List Int).length⟩ : Fl) = fs ++ [(⟨[], 0⟩ : Fl)] from set_same hn] at h2
    by_cases c2 : cd (st + 1) fa oa = 0
    · rw [if_pos c2] at h2
      have h3 := ld_syncDir (q := q) (st := st + 1 + 1) (fa := fa) (oa := oa) (i := fs.length) (fs := fs ++ [⟨[], 0⟩]) (kp := [(lgN, i)]) (si := [] ++ [⟨some fs.length, [], lgN⟩])
      by_cases c3 : cd (st + 1 + 1) fa oa = 0
      · rw [if_pos c3] at h3
        exact ⟨st + 1 + 1 + 1, by omega, .inl (by
          have : freshW lgN (ld q st fa oa i fs [(lgN, i)] []) = _ := runL_two h1 (runL_two h2 h3)
          rw [this]
          exact ⟨rfl, _, _, rfl, hn⟩)⟩
      · rw [if_neg c3] at h3
        obtain ⟨f1, f2⟩ := cd_fell c3
        refine ⟨st + 1 + 1 + 1, by omega, .inr ?_⟩
        have : freshW lgN (ld q st fa oa i fs [(lgN, i)] []) = (cd (st + 1 + 1) fa oa, ld q (st + 1 + 1 + 1) fa oa fs.length (fs ++ [⟨[], 0⟩]) [(lgN, i)] ([] ++ [⟨some fs.length, [], lgN⟩])) := by
          have hk : keepsW lgN (ld q (st + 1) fa oa fs.length (fs ++ [⟨[], 0⟩]) [(lgN, i)] ([] ++ [⟨some fs.length, [], lgN⟩])) = (cd (st + 1 + 1) fa oa, ld q (st + 1 + 1 + 1) fa oa fs.length (fs ++ [⟨[], 0⟩]) [(lgN, i)] ([] ++ [⟨some fs.length, [], lgN⟩])) := by
            unfold keepsW
            rw [runL_cons (f := fun d => d.sync lgN) h2, runL_stop (f := DS.syncDir) h3 c3]
          unfold freshW
          rw [runL_cons (f := fun d => d.create lgN) h1, runL_stop (f := keepsW lgN) hk c3]
        rw [this]
        exact ⟨f1, f2, _, _, _, _, _, _, rfl, hn, .inr rfl, clear_crash ho hn⟩
    · rw [if_neg c2] at h2
      obtain ⟨f1, f2⟩ := cd_fell c2
      refine ⟨st + 1 + 1, by omega, .inr ?_⟩
      have : freshW lgN (ld q st fa oa i fs [(lgN, i)] []) = (cd (st + 1) fa oa, ld q (st + 1 + 1) fa oa fs.length (fs ++ [⟨[], 0⟩]) [(lgN, i)] ([] ++ [⟨some fs.length, [], lgN⟩])) := by
        have hk : keepsW lgN (ld q (st + 1) fa oa fs.length (fs ++ [⟨[], 0⟩]) [(lgN, i)] ([] ++ [⟨some fs.length, [], lgN⟩])) = (cd (st + 1) fa oa, ld q (st + 1 + 1) fa oa fs.length (fs ++ [⟨[], 0⟩]) [(lgN, i)] ([] ++ [⟨some fs.length, [], lgN⟩])) := by
          unfold keepsW
          rw [runL_stop (f := fun d => d.sync lgN) h2 c2]
        unfold freshW
        rw [runL_cons (f := fun d => d.create lgN) h1, runL_stop (f := keepsW lgN) hk c2]
      rw [this]
      exact ⟨f1, f2, _, _, _, _, _, _, rfl, hn, .inr rfl, clear_crash ho hn⟩
  · rw [if_neg c1] at h1
    obtain ⟨f1, f2⟩ := cd_fell c1
    refine ⟨st + 1, by omega, .inr ?_⟩
    have : freshW lgN (ld q st fa oa i fs [(lgN, i)] []) = (cd st fa oa, ld q (st + 1) fa oa i fs [(lgN, i)] []) := runL_stop (f := fun d => d.create lgN) h1 c1
    rw [this]
    exact ⟨f1, f2, i, _, _, _, _, _, rfl, h, .inl rfl, (kept_crash h).imp (fun b' hb => .inl hb)⟩
/-- The failing is set, and taken back. -/
theorem ld_fail (a : Int) : ∃ f, (ld q st fa oa i fs kp si).fail a = ld q st f oa i fs kp si := ⟨_, rfl⟩
theorem ld_fail0 : (ld q st fa oa i fs kp si).fail 0 = ld q st 0 oa i fs kp si := rfl
theorem ld_power (a : Int) : ∃ o, (ld q st fa 0 i fs kp si).power a = ld q st fa o i fs kp si := by
  unfold DS.power
  have : (ld q st fa 0 i fs kp si).off = false := by unfold DS.off ld; simp
  rw [this, if_neg (by decide)]
  exact ⟨_, rfl⟩
end Go.Proofs.Ytmdecbockpgagaa
