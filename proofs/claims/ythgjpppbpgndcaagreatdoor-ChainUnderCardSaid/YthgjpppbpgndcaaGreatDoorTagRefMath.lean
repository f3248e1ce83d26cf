import Derived.Test.YthgjpppbpgndcaaGreatDoorTagCanonMath
/- What the reference's Canon tells is what the program's tells: the plain law. -/
namespace Go.Proofs.YthgjpppbpgndcaaGreatDoor

def isUp (b : UInt8) : Bool := decide (65 ≤ b.toNat) && decide (b.toNat ≤ 90)
def isLet (b : UInt8) : Bool := isLow b || isUp b
def upU (b : UInt8) : UInt8 := if 97 ≤ b.toNat ∧ b.toNat ≤ 122 then b - 32 else b
def isHy (b : UInt8) : Bool := b == 45 || b == 95
theorem isLet_low (b : UInt8) : isLow (lowU b) = isLet b := by
  revert b
  have : ∀ n : Fin 256, isLow (lowU (UInt8.ofNat n.1)) = isLet (UInt8.ofNat n.1) := by decide +kernel
  intro b
  have h := this ⟨b.toNat, b.toNat_lt⟩
  simpa using h
theorem isDig_low (b : UInt8) : isDig (lowU b) = isDig b := by
  have : ∀ n : Fin 256, isDig (lowU (UInt8.ofNat n.1)) = isDig (UInt8.ofNat n.1) := by decide +kernel
  have h := this ⟨b.toNat, b.toNat_lt⟩
  simpa using h
theorem up_low (b : UInt8) : Lib.upperB (lowU b) = upU b := by
  have : ∀ n : Fin 256, Lib.upperB (lowU (UInt8.ofNat n.1)) = upU (UInt8.ofNat n.1) := by decide +kernel
  have h := this ⟨b.toNat, b.toNat_lt⟩
  simpa using h
theorem hy_low (b : UInt8) : decide (dashU (lowU b) = 45) = isHy b := by
  have : ∀ n : Fin 256, decide (dashU (lowU (UInt8.ofNat n.1)) = 45) = isHy (UInt8.ofNat n.1) := by decide +kernel
  have h := this ⟨b.toNat, b.toNat_lt⟩
  simpa using h
theorem dash_low (b : UInt8) (h : isHy b = false) : dashU (lowU b) = lowU b := by
  have : ∀ n : Fin 256, isHy (UInt8.ofNat n.1) = false → dashU (lowU (UInt8.ofNat n.1)) = lowU (UInt8.ofNat n.1) := by decide +kernel
  have h2 := this ⟨b.toNat, b.toNat_lt⟩
  simp at h2
  exact h2 h

def splitR : List UInt8 → List (List UInt8)
  | [] => [[]]
  | b :: l => if isHy b then [] :: splitR l else match splitR l with
    | [] => [[b]]
    | p :: ps => (b :: p) :: ps
theorem splitR_ne (l : List UInt8) : splitR l ≠ [] := by
  cases l with
  | nil => simp [splitR]
  | cons b l =>
    unfold splitR
    split
    · simp
    · split <;> simp
theorem splitR_small (l : List UInt8) : splitL (normL l) = (splitR l).map smallL := by
  induction l with
  | nil => rfl
  | cons b l ih =>
    have e : normL (b :: l) = dashU (lowU b) :: normL l := rfl
    rw [e]
    conv => lhs; unfold splitL
    conv => rhs; unfold splitR
    have h := hy_low b
    cases hb : isHy b with
    | true =>
      rw [hb] at h
      rw [if_pos (of_decide_eq_true h), if_pos rfl, ih]
      rfl
    | false =>
      rw [hb] at h
      rw [if_neg (of_decide_eq_false h), if_neg (by decide), ih, dash_low b hb]
      cases hs : splitR l with
      | nil => exact absurd hs (splitR_ne l)
      | cons p ps => rfl

theorem small_len (p : List UInt8) : (smallL p).length = p.length := by simp [smallL]
theorem small_all_let (p : List UInt8) : (smallL p).all isLow = p.all isLet := by
  unfold smallL
  rw [List.all_map]
  congr 1
  funext b
  exact isLet_low b
theorem small_all_dig (p : List UInt8) : (smallL p).all isDig = p.all isDig := by
  unfold smallL
  rw [List.all_map]
  congr 1
  funext b
  exact isDig_low b
def isLD (b : UInt8) : Bool := isLet b || isDig b
theorem small_all_ei (p : List UInt8) : (smallL p).all isEi = p.all isLD := by
  unfold smallL
  rw [List.all_map]
  congr 1
  funext b
  show (isLow (lowU b) || isDig (lowU b)) = _
  rw [isLet_low, isDig_low]
  rfl
theorem small_up (p : List UInt8) : (smallL p).map Lib.upperB = p.map upU := by
  unfold smallL
  rw [List.map_map]
  exact List.map_congr_left (fun b _ => up_low b)
def capR (p : List UInt8) : List UInt8 := (p.take 1).map upU ++ smallL (p.drop 1)
theorem small_cap (p : List UInt8) : capU (smallL p) = capR p := by
  unfold capU capR smallL
  rw [← List.map_take, List.map_map, ← List.map_drop]
  congr 1
  exact List.map_congr_left (fun b _ => up_low b)

def langR (p : List UInt8) : Bool := decide (2 ≤ p.length) && decide (p.length ≤ 3) && p.all isLet
def scriptR (p : List UInt8) : Bool := decide (p.length = 4) && p.all isLet
def regionR (p : List UInt8) : Bool := (decide (p.length = 2) && p.all isLet) || (decide (p.length = 3) && p.all isDig)
def variantR (p : List UInt8) : Bool := p.all isLD && ((decide (5 ≤ p.length) && decide (p.length ≤ 8)) || (decide (p.length = 4) && isDig (p.headD 0)))
theorem lang_small (p : List UInt8) : allP isLow 2 3 (smallL p) = langR p := by
  unfold allP langR
  rw [small_len, small_all_let, Bool.and_comm]
theorem script_small (p : List UInt8) : allP isLow 4 4 (smallL p) = scriptR p := by
  unfold allP scriptR
  rw [small_len, small_all_let, Bool.and_comm]
  congr 1
  rw [← Bool.decide_and]
  exact decide_eq_decide.2 (by omega)
theorem region_small (p : List UInt8) : (allP isLow 2 2 (smallL p) || allP isDig 3 3 (smallL p)) = regionR p := by
  unfold allP regionR
  rw [small_len, small_all_let, small_all_dig, Bool.and_comm, Bool.and_comm (p.all isDig)]
  congr 2
  · rw [← Bool.decide_and]; exact decide_eq_decide.2 (by omega)
  · rw [← Bool.decide_and]; exact decide_eq_decide.2 (by omega)
theorem head_small (p : List UInt8) : isDig ((smallL p).headD 0) = isDig (p.headD 0) := by
  cases p with
  | nil => rfl
  | cons b p => exact isDig_low b
theorem variant_small (p : List UInt8) : variantB (smallL p) = variantR p := by
  unfold variantB allP variantR
  rw [small_len, small_all_ei, head_small]
  have h4 : (decide (4 ≤ p.length) && decide (p.length ≤ 4)) = decide (p.length = 4) := by
    rw [← Bool.decide_and]; exact decide_eq_decide.2 (by omega)
  rw [h4]
  cases p.all isLD <;> simp

/-- The reference's end: variants. -/
def varsR (out : List UInt8) (seen : List (List UInt8)) : List (List UInt8) → Option (List UInt8)
  | [] => some out
  | p :: ps => if variantR p = true then (if (seen.map smallL).contains (smallL p) = true then none else varsR (out ++ 45 :: smallL p) (seen ++ [p]) ps) else none
def regR (out : List UInt8) (ps : List (List UInt8)) : Option (List UInt8) :=
  if regionR (ps.headD []) = true then varsR (out ++ 45 :: (ps.headD []).map upU) [] (ps.drop 1) else varsR out [] ps
def scrR (out : List UInt8) (ps : List (List UInt8)) : Option (List UInt8) :=
  if scriptR (ps.headD []) = true then regR (out ++ 45 :: capR (ps.headD [])) (ps.drop 1) else regR out ps
def partsR (ps : List (List UInt8)) : Option (List UInt8) :=
  if langR (ps.headD []) = true then scrR (smallL (ps.headD [])) (ps.drop 1) else none
def canonR (l : List UInt8) : Option (List UInt8) :=
  if 40 < l.length then none else if smallL l = rootL then some rootL else partsR (splitR l)

theorem joinL_snoc : ∀ (out : List (List UInt8)) (t : List UInt8), out ≠ [] → joinL (out ++ [t]) = joinL out ++ 45 :: t
  | [], _, h => absurd rfl h
  | [p], t, _ => rfl
  | p :: q :: ps, t, _ => by
    have ih := joinL_snoc (q :: ps) t (by simp)
    rw [List.cons_append, List.cons_append]
    unfold joinL
    rw [← List.cons_append, ih, List.append_assoc, List.cons_append]

def lp (n : Nat) (out ts : List (List UInt8)) : Option (List UInt8) := (loopC n out ts).map fun p => joinL p.2
theorem lp_nil (n : Nat) (out : List (List UInt8)) : lp n out [] = some (joinL out) := rfl
theorem lp_cons (n : Nat) (out : List (List UInt8)) (t : List UInt8) (ts : List (List UInt8)) : lp n out (t :: ts) = (stepC n out t).bind fun p => lp p.1 (out ++ [p.2]) ts := by
  unfold lp
  rw [loopC_cons]
  cases stepC n out t <;> rfl

theorem vars_is : ∀ (ps : List (List UInt8)) (out pre : List (List UInt8)) (seen : List (List UInt8)), out ≠ [] → out.drop 1 = pre ++ seen.map smallL → (∀ x ∈ pre, variantB x = false) →
    lp 3 out (ps.map smallL) = varsR (joinL out) seen ps
  | [], _, _, _, _, _, _ => rfl
  | p :: ps, out, pre, seen, hne, hd, hp => by
    rw [List.map_cons, lp_cons]
    unfold stepC varsR
    rw [if_neg (by decide), if_neg (by omega), if_neg (by omega), variant_small]
    cases hv : variantR p with
    | false => rw [if_neg (by simp), if_neg (by simp)]; rfl
    | true =>
      have hc : (out.drop 1).contains (smallL p) = (seen.map smallL).contains (smallL p) := by
        rw [hd]
        have hn : smallL p ∉ pre := fun hm => by
          have := hp _ hm
          rw [variant_small, hv] at this
          cases this
        cases hs : (seen.map smallL).contains (smallL p) with
        | true =>
          have := List.contains_iff_mem.1 hs
          exact List.contains_iff_mem.2 (List.mem_append.2 (.inr this))
        | false =>
          rw [← Bool.not_eq_true, List.contains_iff_mem] at hs ⊢
          intro h
          rcases List.mem_append.1 h with h | h
          · exact hn h
          · exact hs h
      rw [hc, if_pos rfl]
      cases hs : (seen.map smallL).contains (smallL p) with
      | true => rw [if_neg (by simp), if_pos rfl]; rfl
      | false =>
        rw [if_pos ⟨rfl, rfl⟩, if_neg (by simp)]
        show lp 3 (out ++ [smallL p]) (ps.map smallL) = _
        rw [vars_is ps (out ++ [smallL p]) pre (seen ++ [p]) (by simp) ?_ hp, joinL_snoc _ _ hne]
        rw [List.map_append, List.drop_append_of_le_length (List.length_pos_iff.2 hne), hd, List.append_assoc]
        rfl
theorem step23 (n : Nat) (hn : n = 1 ∨ n = 2) (out : List (List UInt8)) (t : List UInt8) (h1 : n = 1 → allP isLow 4 4 t = false) (h : (allP isLow 2 2 t || allP isDig 3 3 t) = false) : stepC n out t = stepC 3 out t := by
  rw [Bool.or_eq_false_iff] at h
  unfold stepC
  rcases hn with rfl | rfl
  · simp [h1 rfl, h.1, h.2]
  · simp [h.1, h.2]
theorem step_region (n : Nat) (hn : n = 1 ∨ n = 2) (out : List (List UInt8)) (t : List UInt8) (h1 : n = 1 → allP isLow 4 4 t = false) (h : (allP isLow 2 2 t || allP isDig 3 3 t) = true) : stepC n out t = some (3, t.map Lib.upperB) := by
  rw [Bool.or_eq_true] at h
  unfold stepC
  rcases hn with rfl | rfl
  · simp [h1 rfl, h]
  · simp [h]
theorem region_not {p : List UInt8} (h : regionR p = true) : variantB (p.map upU) = false := by
  have hl : p.length = 2 ∨ p.length = 3 := by
    unfold regionR at h
    simp at h
    omega
  unfold variantB allP
  rw [List.length_map]
  rcases hl with e | e <;> simp [e]
theorem lp_region (n : Nat) (hn : n = 1 ∨ n = 2) (out : List (List UInt8)) (hne : out ≠ []) (hd : ∀ x ∈ out.drop 1, variantB x = false) (ps : List (List UInt8)) (h1 : n = 1 → scriptR (ps.headD []) = false) :
    lp n out (ps.map smallL) = regR (joinL out) ps := by
  unfold regR
  cases ps with
  | nil => rfl
  | cons p ps =>
    rw [List.map_cons, lp_cons]
    simp only [List.headD_cons, List.drop_one, List.tail_cons] at h1 ⊢
    have h2 : n = 1 → allP isLow 4 4 (smallL p) = false := fun e => by rw [script_small]; exact h1 e
    cases hr : regionR p with
    | true =>
      rw [step_region n hn out _ h2 (by rw [region_small]; exact hr), if_pos rfl]
      show lp 3 (out ++ [(smallL p).map Lib.upperB]) (ps.map smallL) = _
      rw [small_up, vars_is ps (out ++ [p.map upU]) (out.drop 1 ++ [p.map upU]) [] (by simp) (by rw [List.map_nil, List.append_nil, List.drop_append_of_le_length (List.length_pos_iff.2 hne)]) ?_, joinL_snoc _ _ hne]
      intro x hx
      rcases List.mem_append.1 hx with h | h
      · exact hd x h
      · obtain rfl : x = _ := by simpa using h
        exact region_not hr
    | false =>
      rw [step23 n hn out _ h2 (by rw [region_small]; exact hr), if_neg (by simp), ← lp_cons, ← List.map_cons]
      exact vars_is (p :: ps) out (out.drop 1) [] hne (by simp) hd
theorem script_not {p : List UInt8} (h : scriptR p = true) : variantB (capR p) = false := by
  unfold scriptR at h
  rw [Bool.and_eq_true, decide_eq_true_eq] at h
  obtain ⟨h4, hl⟩ := h
  match p, h4 with
  | [a, b, c, d], _ =>
    have ha : isLet a = true := by simp at hl; exact hl.1
    have hx : isDig (upU a) = false := by
      have : ∀ n : Fin 256, isLet (UInt8.ofNat n.1) = true → isDig (upU (UInt8.ofNat n.1)) = false := by decide +kernel
      have h2 := this ⟨a.toNat, a.toNat_lt⟩
      simp at h2
      exact h2 ha
    have e : capR [a, b, c, d] = [upU a, lowU b, lowU c, lowU d] := rfl
    rw [e]
    unfold variantB allP
    simp [hx]
theorem lp_script (p0 : List UInt8) (ps : List (List UInt8)) : lp 1 [p0] (ps.map smallL) = scrR p0 ps := by
  unfold scrR
  cases ps with
  | nil => rfl
  | cons p ps =>
    cases hs : scriptR p with
    | true =>
      simp only [List.headD_cons, List.drop_one, List.tail_cons]
      rw [List.map_cons, lp_cons, if_pos hs]
      have : stepC 1 [p0] (smallL p) = some (2, capU (smallL p)) := by
        unfold stepC
        rw [if_neg (by decide), if_pos ⟨rfl, by rw [script_small]; exact hs⟩]
      rw [this]
      show lp 2 ([p0] ++ [capU (smallL p)]) (ps.map smallL) = _
      rw [small_cap, lp_region 2 (.inr rfl) _ (by simp) ?_ ps (fun e => absurd e (by decide))]
      · rfl
      · intro x hx
        obtain rfl : x = capR p := by simpa using hx
        exact script_not hs
    | false =>
      rw [if_neg (by simp [hs]), lp_region 1 (.inl rfl) [p0] (by simp) (by simp) (p :: ps) (fun _ => by simpa using hs)]
      rfl
theorem canonR_is (l : List UInt8) : canonR l = canonL l := by
  unfold canonR canonL
  by_cases h : 40 < l.length
  · rw [if_pos h, if_pos h]
  rw [if_neg h, if_neg h]
  by_cases h2 : smallL l = rootL
  · rw [if_pos h2, if_pos h2]
  rw [if_neg h2, if_neg h2, splitR_small]
  show _ = lp 0 [] _
  unfold partsR
  cases hs : splitR l with
  | nil => exact absurd hs (splitR_ne l)
  | cons p ps =>
    rw [List.map_cons, lp_cons]
    simp only [List.headD_cons, List.drop_one, List.tail_cons]
    unfold stepC
    rw [if_pos rfl, lang_small]
    cases hl : langR p with
    | true =>
      rw [if_pos rfl, if_pos rfl, ← lp_script]
      rfl
    | false =>
      rw [if_neg (by simp), if_neg (by simp)]
      rfl
end Go.Proofs.YthgjpppbpgndcaaGreatDoor
