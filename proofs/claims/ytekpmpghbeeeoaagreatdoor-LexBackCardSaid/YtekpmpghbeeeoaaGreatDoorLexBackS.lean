import Derived.Test.YtekpmpghbeeeoaaGreatDoorLexBackM
import Derived.Test.YtekpmpghbeeeoaaGreatDoorLexKnown
/- What is printed is read back: all signs of a text. -/
namespace Go.Proofs.YtekpmpghbeeeoaaGreatDoor

def oneOf (t : Tok) : One := ⟨t.kind, t.text, t.r, 0⟩
/-- A sign of a text. -/
def Sane (n : Nat) (t : Tok) : Prop := Back (oneOf t) ∧ t.text.length ≤ n
theorem tk_sane : ∀ (k : Nat) (a : Nat) (l : List UInt8), l.length ≤ k → ∀ t ∈ (tk a l).1, Sane k t := by
  intro k
  induction k with
  | zero =>
    intro a l h t ht
    obtain rfl := List.eq_nil_of_length_eq_zero (Nat.le_zero.1 h)
    cases ht
  | succ k ih =>
    intro a l h t ht
    by_cases he : l.drop (blankN l) = []
    · rw [tk_end he] at ht; cases ht
    · cases ho : oneT (l.drop (blankN l)) with
      | none => rw [tk_none he ho] at ht; cases ht
      | some o =>
        have hl := oneT_len ho
        unfold OkOne at hl
        rw [List.length_drop] at hl
        obtain ⟨hb, hx⟩ := one_back ho
        rw [List.length_drop] at hx
        rw [tk_some ho] at ht
        rcases List.mem_cons.1 ht with rfl | ht
        · exact ⟨hb, by simp only; omega⟩
        · have := ih _ _ (by simp only [List.length_drop]; omega) t ht
          exact ⟨this.1, by have := this.2; omega⟩
/-- What is printed behind b. -/
def restP (b : List UInt8) : List Tok → List UInt8
  | [] => []
  | t :: ts => (if gapB b t.kind = true then [32] else []) ++ putT t ++ restP ((if gapB b t.kind = true then b ++ [32] else b) ++ putT t) ts
theorem printF_rest {n : Nat} : ∀ (ts : List Tok) (b : List UInt8), (∀ t ∈ ts, Sane n t) → printF b ts = b ++ restP b ts
  | [], b, _ => by simp [printF, restP]
  | t :: ts, b, h => by
    have hb := (h t (List.mem_cons_self ..)).1
    have hk : ¬ (t.kind ≤ 0 ∨ 8 < t.kind) := by
      have h1 := hb.1
      have h2 := hb.2.1
      simp only [oneOf] at h1 h2
      omega
    rw [printF, if_neg hk, printF_rest ts _ (fun x hx => h x (List.mem_cons_of_mem _ hx)), restP]
    split <;> simp
theorem rest_sep {b : List UInt8} (h0 : b ≠ []) (h1 : b.getLast? ≠ some 10) : ∀ (ts : List Tok), (∀ t ∈ ts, t.kind = 7 → putT t = [10]) → Sep (restP b ts)
  | [], _ => fun x hx => by cases hx
  | t :: ts, h => by
    intro x hx
    rw [restP] at hx
    by_cases h7 : t.kind = 7
    · have hg : gapB b t.kind = false := by unfold gapB; rw [h7]; simp
      rw [hg, if_neg (by decide), List.nil_append, h t (List.mem_cons_self ..) h7] at hx
      cases hx
      decide
    · have hg : gapB b t.kind = true := by unfold gapB; simp [h0, h1, h7]
      rw [hg, if_pos rfl] at hx
      cases hx
      decide
theorem put7 {t : Tok} (h : t.kind = 7) : putT t = [10] := by unfold putT; rw [h]; rfl
theorem rest_tk {n : Nat} : ∀ (ts : List Tok) (b : List UInt8) (a : Nat), (∀ t ∈ ts, Sane n t) → (tk a (restP b ts)).1.map er = ts.map er ∧ (tk a (restP b ts)).2 = none
  | [], b, a, _ => ⟨rfl, rfl⟩
  | t :: ts, b, a, h => by
    have hts : ∀ x ∈ ts, Sane n x := fun x hx => h x (List.mem_cons_of_mem _ hx)
    obtain ⟨k1, k2, k3, k4⟩ := (h t (List.mem_cons_self ..)).1
    simp only [oneOf] at k1 k2 k3 k4
    have key : ∀ (a : Nat) (b' : List UInt8), b' ≠ [] → (t.kind ≠ 7 → b'.getLast? ≠ some 10) → (tk a (putT t ++ restP b' ts)).1.map er = (t :: ts).map er ∧ (tk a (putT t ++ restP b' ts)).2 = none := by
      intro a b' hb0 hb1
      by_cases h7 : t.kind = 7
      · have ho : oneT ([10] ++ restP b' ts) = some ⟨7, [], 0, 1⟩ := rfl
        have ht := tk_tok a ho rfl
        obtain ⟨g1, g2⟩ := rest_tk ts b' (a + 1) hts
        rw [put7 h7, ht]
        refine ⟨?_, g2⟩
        rw [List.map_cons, List.map_cons]
        have e : er ⟨7, a, [], 0⟩ = er t := by
          unfold er
          rw [h7, (k3 h7).1, (k3 h7).2]
        exact (congrArg (· :: _) e).trans (congrArg (_ :: ·) g1)
      · obtain ⟨p1, p2, p3⟩ := k4 h7
        have ho := p3 (restP b' ts) (rest_sep hb0 (hb1 h7) ts (fun x hx h7 => put7 h7))
        have ht := tk_tok a ho rfl
        obtain ⟨g1, g2⟩ := rest_tk ts b' (a + (putL t.kind t.text t.r).length) hts
        show (tk a (putL t.kind t.text t.r ++ restP b' ts)).1.map er = _ ∧ (tk a (putL t.kind t.text t.r ++ restP b' ts)).2 = none
        rw [ht]
        refine ⟨?_, g2⟩
        rw [List.map_cons, List.map_cons]
        exact congrArg (_ :: ·) g1
    have hne : putT t ≠ [] := by
      by_cases h7 : t.kind = 7
      · rw [put7 h7]; simp
      · exact (k4 h7).1
    have hlast : ∀ c : List UInt8, t.kind ≠ 7 → (c ++ putT t).getLast? ≠ some 10 := fun c h7 => by
      have := (k4 h7).2.1
      have e : (c ++ putT t).getLast? = (putT t).getLast? := by
        rw [List.getLast?_append]
        cases hq : (putT t).getLast? with
        | none => rw [List.getLast?_eq_none_iff] at hq; exact absurd hq hne
        | some x => rfl
      rw [e]
      exact this
    rw [restP]
    cases hg : gapB b t.kind with
    | true =>
      rw [if_pos rfl, if_pos rfl, List.append_assoc, List.singleton_append, tk_blank (by decide)]
      exact key (a + 1) _ (by simp) (hlast _)
    | false =>
      rw [if_neg (by decide), if_neg (by decide), List.nil_append]
      exact key a _ (by simp [hne]) (hlast _)
/-- What Print tells of what Scan tells. -/
theorem print_scan {s : List UInt8} : printL (scanT s) = restP [] (tk 0 s).1 := by
  unfold scanT printL
  rw [printF_app, printF_skip (.inl (by simp)), printF_rest (n := s.length) _ _ (tk_sane _ 0 s (Nat.le_refl _)), List.nil_append]
theorem back_scan {s : List UInt8} : (tk 0 (printL (scanT s))).2 = none ∧ (scanT (printL (scanT s))).map er = (scanT s).map er := by
  obtain ⟨h1, h2⟩ := rest_tk (n := s.length) (tk 0 s).1 [] 0 (tk_sane _ 0 s (Nat.le_refl _))
  rw [print_scan]
  refine ⟨h2, ?_⟩
  unfold scanT
  rw [List.map_append, List.map_append, h1]
  rfl
theorem back_print {s : List UInt8} : printL (scanT (printL (scanT s))) = printL (scanT s) := printF_er _ _ _ back_scan.2
theorem printF_len {M : Nat} : ∀ (ts : List Tok) (b : List UInt8), (∀ t ∈ ts, (putT t).length ≤ M) → (printF b ts).length ≤ b.length + ts.length * (M + 1)
  | [], b, _ => by simp [printF]
  | t :: ts, b, h => by
    have h1 := h t (List.mem_cons_self ..)
    have ih := fun b => printF_len (M := M) ts b (fun x hx => h x (List.mem_cons_of_mem _ hx))
    rw [List.length_cons, Nat.succ_mul]
    simp only [printF]
    split
    · have := ih b; omega
    · split
      · have := ih (b ++ [32] ++ putT t)
        rw [List.length_append, List.length_append, List.length_singleton] at this
        omega
      · have := ih (b ++ putT t)
        rw [List.length_append] at this
        omega
theorem scanT_text {s : List UInt8} : ∀ t ∈ scanT s, t.text.length ≤ s.length := fun t ht => by
  unfold scanT at ht
  rcases List.mem_append.1 ht with h | h
  · exact (tk_sane _ 0 s (Nat.le_refl _) t h).2
  · rw [List.mem_singleton.1 h]; exact Nat.zero_le _
theorem scanT_len {s : List UInt8} : (scanT s).length ≤ s.length + 1 := by
  have := (tk_order _ 0 s (Nat.le_refl _)).2.2.2
  unfold scanT
  rw [List.length_append, List.length_singleton]
  omega
theorem print_len {s : List UInt8} (h : s.length ≤ 600) : (printL (scanT s)).length ≤ 800000 := by
  have h1 := printF_len (M := 1220) (scanT s) [] (fun t ht => by
    have := putL_len t.kind t.text t.r
    have := scanT_text t ht
    unfold putT
    omega)
  have h2 := scanT_len (s := s)
  unfold printL
  simp only [List.length_nil, Nat.zero_add] at h1
  have : (scanT s).length * 1221 ≤ 601 * 1221 := Nat.mul_le_mul_right _ (by omega)
  omega
/-- Places, sign by sign. -/
theorem scanT_order {s : List UInt8} : (scanT s).Pairwise (fun x y => x.at_ ≤ y.at_) := by
  unfold scanT
  obtain ⟨h1, h2, -, -⟩ := tk_order _ 0 s (Nat.le_refl _)
  refine List.pairwise_append.2 ⟨h2, List.pairwise_singleton _ _, fun x hx y hy => ?_⟩
  rw [List.mem_singleton.1 hy]
  have := h1 x hx
  simp only
  omega
theorem scanT_step {s : List UInt8} {k : Nat} (hk : k + 1 < (scanT s).length) : ((scanT s)[k]'(by omega)).at_ ≤ (scanT s)[k + 1].at_ :=
  List.pairwise_iff_getElem.1 scanT_order k (k + 1) (by omega) hk (Nat.lt_succ_self k)
theorem er_at {ts us : List Tok} (h : us.map er = ts.map er) {k : Nat} (h1 : k < ts.length) (h2 : k < us.length) : us[k].kind = ts[k].kind ∧ us[k].text = ts[k].text ∧ us[k].r = ts[k].r := by
  have e1 : (us.map er)[k]? = some (er us[k]) := by rw [List.getElem?_map, List.getElem?_eq_getElem h2]; rfl
  have e2 : (ts.map er)[k]? = some (er ts[k]) := by rw [List.getElem?_map, List.getElem?_eq_getElem h1]; rfl
  rw [h, e2] at e1
  injection e1 with e1
  unfold er at e1
  injection e1 with a1 _ a3 a4
  exact ⟨a1.symm, a3.symm, a4.symm⟩
end Go.Proofs.YtekpmpghbeeeoaaGreatDoor
