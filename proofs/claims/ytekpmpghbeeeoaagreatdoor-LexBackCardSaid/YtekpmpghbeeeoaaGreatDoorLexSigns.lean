import Derived.Test.YtekpmpghbeeeoaaGreatDoorLexOnes
import Derived.Test.YtekpmpghbeeeoaaGreatDoorLexLib
/- package lex: signs. -/
namespace Go.Proofs.YtekpmpghbeeeoaaGreatDoor
open Go.RowKit Go.Shelf Go.Proofs.YtekpmpghbeeeoaaGreatDoorW.PrintWords Go.Proofs.YtekpmpghbeeeoaaGreatDoorW.PrintMore

/-- What a function of one sign tells: where there is none, whatever sign of no byte. -/
def OneR (o : Option One) (e : Ending) : Prop := (∀ x, o = some x → e = oneE (some x)) ∧ (o = none → ∃ k t r, e = .returned (oneA k 0 t r))
theorem OneR.of {o : Option One} {e : Ending} (h : e = oneE o) : OneR o e :=
  ⟨fun x hx => by rw [h, hx], fun hn => ⟨0, ByteArray.empty, 0, by rw [h, hn]; rfl⟩⟩
theorem prefix2 (a b : UInt8) (l : List UInt8) : [a, b].isPrefixOf l = decide (l.take 2 = [a, b]) := by
  match l with
  | [] => rfl
  | [c] => simp [List.isPrefixOf]
  | c :: d :: r => rw [Bool.eq_iff_iff]; simp [List.isPrefixOf]; constructor <;> (rintro ⟨rfl, rfl⟩; exact ⟨rfl, rfl⟩)
theorem indexByte_ge (l : List UInt8) (c : UInt8) : -1 ≤ Lib.indexByte l c := by
  induction l with
  | nil => exact Int.le_refl _
  | cons b l ih =>
    unfold Lib.indexByte
    split
    · decide
    · split
      · decide
      · omega
theorem indexByte_mem (l : List UInt8) (c : UInt8) : 0 ≤ Lib.indexByte l c ↔ c ∈ l := by
  induction l with
  | nil => simp [Lib.indexByte]
  | cons b l ih =>
    have hge := indexByte_ge l c
    unfold Lib.indexByte
    by_cases h : b = c
    · subst h
      simp
    · rw [if_neg (by simpa using h)]
      have hm : c ∈ b :: l ↔ c ∈ l := by simp [Ne.symm h]
      rw [hm, ← ih]
      by_cases h2 : Lib.indexByte l c = -1
      · rw [if_pos (by simpa using h2), h2]
      · rw [if_neg (by simpa using h2)]
        constructor <;> intro h3 <;> omega

set_option maxRecDepth 100000 in
set_option maxHeartbeats 1000000 in
theorem lex_sign (c : UInt8) (r : List UInt8) (hl : r.length < 1000000) (W : World) :
    Calls Tryz.prog 50 #[.string (S (c :: r))] W fun e w' => OneR (signT (c :: r)) e ∧ Below W.heap.size W w' := by
  have HP := Lib.hid (fun W => lib_prefix (c :: r) [62, 60] W)
  have HQ := Lib.hid (fun W => lib_prefix (c :: r) [60, 62] W)
  have HB := Lib.hid (fun W => lib_byte signs c W)
  have HM := indexByte_mem signs c
  have hsz := S_size (c :: r)
  rw [List.length_cons] at hsz
  have hix : ∀ W, (Instr.index 9 (.string (S (c :: r))) (.int .i64 0)).run Tryz.prog W = .ok (.int .u8 ((c.toNat : Nat) : Int)) W := fun W => ixS (l := c :: r) (k := 0) (by simp) W
  have hN : signT (c :: r) = if (c :: r).take 2 = [62, 60] ∨ (c :: r).take 2 = [60, 62] then some ⟨6, (c :: r).take 2, 0, 2⟩ else if c ∈ signs then some ⟨6, [c], 0, 1⟩ else none := rfl
  have h2 : (c :: r).take 2 = [62, 60] ∨ (c :: r).take 2 = [60, 62] → ∀ W, (Instr.slice 9 (.string (S (c :: r))) none (some (.int .i64 2)) none).run Tryz.prog W = .ok (.string (S ((c :: r).take 2))) W := fun h W => run_take (c :: r) 2 (by cases r with | nil => simp at h | cons => simp) W
  have h1 : ∀ W, (Instr.slice 9 (.string (S (c :: r))) none (some (.int .i64 1)) none).run Tryz.prog W = .ok (.string (S [c])) W := fun W => run_take (c :: r) 1 (by simp) W
  have h0 : ∀ W, (Instr.slice 9 (.string (S (c :: r))) none (some (.int .i64 0)) none).run Tryz.prog W = .ok (.string ByteArray.empty) W := fun W => run_take (c :: r) 0 (by simp) W
  rw [prefix2] at HP HQ
  have e1 : S [62, 60] = { data := #[62, 60] } := rfl
  have e2 : S [60, 62] = { data := #[60, 62] } := rfl
  have e3 : S signs = { data := #[91, 93, 40, 41, 124, 42, 43, 63, 46, 94, 45, 58, 61] } := rfl
  rw [e1] at HP
  rw [e2] at HQ
  rw [e3] at HB
  clear e1 e2 e3
  obtain ⟨o, ho⟩ : ∃ o, signT (c :: r) = o := ⟨_, rfl⟩
  rw [ho] at hN ⊢
  clear ho
  obtain ⟨x, hx⟩ : ∃ x : Int, ((c.toNat : Nat) : Int) = x := ⟨_, rfl⟩
  rw [hx] at HB hix
  clear hx
  obtain ⟨y, hy⟩ : ∃ y, Lib.indexByte signs c = y := ⟨_, rfl⟩
  rw [hy] at HB HM
  clear hy
  obtain ⟨s1, hs1⟩ : ∃ s, S [c] = s := ⟨_, rfl⟩
  rw [hs1] at h1
  obtain ⟨l2, hl2⟩ : ∃ l2, (c :: r).take 2 = l2 := ⟨_, rfl⟩
  rw [hl2] at HP HQ hN h2
  clear hl2
  obtain ⟨s2, hs2⟩ : ∃ s, S l2 = s := ⟨_, rfl⟩
  rw [hs2] at h2
  generalize S (c :: r) = s at *
  have HX := Lib.hid hix
  have H2 := Lib.hid h2
  have H1 := Lib.hid h1
  have H0 := Lib.hid h0
  clear hix h2 h1 h0 hsz
  by_cases ha : l2 = [62, 60]
  · have HE : Hid (OneR o (.returned (oneA 6 2 s2 0))) := Lib.hid (OneR.of (by rw [hN, if_pos (.inl ha), ← hs2]; rfl))
    have hsl := H2.out (.inl ha)
    rw [decide_eq_true ha] at HP
    clear hN hs1 hs2 ha HM
    go_enter Tryz.func50, Tryz.ntmps50
    go_wp2_with fail
    refine (HP.out _).mono ?_
    rintro e w1 ⟨rfl, rfl⟩
    go_wp2_with fail
    refine bodyPost_ret (v := (oneA 6 2 s2 0)) (by first | (simp [results, Tryz.results50, go_sem]; done) | (simp [results, Tryz.results50, go_sem]; rfl)) rfl ?_
    exact ⟨HE.out, (Below.refl _ _).alloc (Nat.le_refl _) _⟩
  · rw [decide_eq_false ha] at HP
    by_cases hb : l2 = [60, 62]
    · have HE : Hid (OneR o (.returned (oneA 6 2 s2 0))) := Lib.hid (OneR.of (by rw [hN, if_pos (.inr hb), ← hs2]; rfl))
      have hsl := H2.out (.inr hb)
      rw [decide_eq_true hb] at HQ
      clear hN hs1 hs2 ha hb HM
      go_enter Tryz.func50, Tryz.ntmps50
      go_wp2_with fail
      refine (HP.out _).mono ?_
      rintro e w1 ⟨rfl, rfl⟩
      go_wp2_with fail
      refine (HQ.out _).mono ?_
      rintro e w1 ⟨rfl, rfl⟩
      go_wp2_with fail
      refine bodyPost_ret (v := (oneA 6 2 s2 0)) (by first | (simp [results, Tryz.results50, go_sem]; done) | (simp [results, Tryz.results50, go_sem]; rfl)) rfl ?_
      exact ⟨HE.out, (Below.refl _ _).alloc (Nat.le_refl _) _⟩
    · rw [decide_eq_false hb] at HQ
      rw [if_neg (by rintro (h | h); exact ha h; exact hb h)] at hN
      clear ha hb H2 hs2
      by_cases hm : 0 ≤ y
      · have HE : Hid (OneR o (.returned (oneA 6 1 s1 0))) := Lib.hid (OneR.of (by rw [hN, if_pos (HM.1 hm), ← hs1]; rfl))
        clear hN hs1 HM
        have hix := HX.out
        have hsl := H1.out
        go_enter Tryz.func50, Tryz.ntmps50
        go_wp2_with fail
        refine (HP.out _).mono ?_
        rintro e w1 ⟨rfl, rfl⟩
        go_wp2_with fail
        refine (HQ.out _).mono ?_
        rintro e w1 ⟨rfl, rfl⟩
        go_wp2_with fail
        refine (HB.out _).mono ?_
        rintro e w1 ⟨rfl, rfl⟩
        go_wp2_with fail
        refine bodyPost_ret (v := (oneA 6 1 s1 0)) (by first | (simp [results, Tryz.results50, go_sem]; done) | (simp [results, Tryz.results50, go_sem]; rfl)) rfl ?_
        exact ⟨HE.out, (Below.refl _ _).alloc (Nat.le_refl _) _⟩
      · have HE : Hid (OneR o (.returned (oneA 6 0 ByteArray.empty 0))) := Lib.hid ⟨fun z hz => (by rw [hN, if_neg (fun h => hm (HM.2 h))] at hz; cases hz), fun _ => ⟨6, ByteArray.empty, 0, rfl⟩⟩
        clear hN hs1 HM
        have hix := HX.out
        have hsl := H0.out
        go_enter Tryz.func50, Tryz.ntmps50
        go_wp2_with fail
        refine (HP.out _).mono ?_
        rintro e w1 ⟨rfl, rfl⟩
        go_wp2_with fail
        refine (HQ.out _).mono ?_
        rintro e w1 ⟨rfl, rfl⟩
        go_wp2_with fail
        refine (HB.out _).mono ?_
        rintro e w1 ⟨rfl, rfl⟩
        go_wp2_with fail
        refine bodyPost_ret (v := (oneA 6 0 ByteArray.empty 0)) (by first | (simp [results, Tryz.results50, go_sem]; done) | (simp [results, Tryz.results50, go_sem]; rfl)) rfl ?_
        exact ⟨HE.out, (Below.refl _ _).alloc (Nat.le_refl _) _⟩
end Go.Proofs.YtekpmpghbeeeoaaGreatDoor
