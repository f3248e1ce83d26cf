import Derived.Test.YtmdecbockpgagaaWalOpens
import Derived.Test.YtmdecbockpgagaaWalClears
import Derived.Test.YtmdecbockpgagaaOpenRs
/- hornbooklaw22: few. -/
namespace Go.Proofs.Ytmdecbockpgagaa
open Go.RowKit Go.Maps Go.Proofs.YtmdecbockpgagaaW.PrintWords Go.Proofs.YtmdecbockpgagaaW.PrintMore
variable {G : DG} {w w' : World}

/-- Is a group looked at? -/
def fewB (rs : List Rc) : Bool := rs.all (fun r => decide (r.text.size ≤ 2100) && decide (r.tag.size ≤ 100)) && decide (rs.length ≤ 25)
theorem few_bad {rs : List Rc} {k : Nat} (hk : k < rs.length) (h : ¬ (rs[k].text.size ≤ 2100 ∧ rs[k].tag.size ≤ 100)) : fewB rs = false := by
  unfold fewB
  have : rs.all (fun r => decide (r.text.size ≤ 2100) && decide (r.tag.size ≤ 100)) = false := by
    rw [List.all_eq_false]
    exact ⟨_, List.getElem_mem hk, by simp only [Bool.and_eq_true, decide_eq_true_eq]; exact h⟩
  rw [this]; rfl
set_option maxRecDepth 100000 in
set_option maxHeartbeats 1000000 in
theorem law22_few (v : Value) (rs : List Rc) (w : World) (hr : RdR w v rs) (hf : Fits rs) : Calls Try.prog 19 #[v] w fun e w' => e = .returned (.bool (fewB rs)) ∧ Below w.heap.size w w' := by
  have HR := Lib.hid hr
  have HF := Lib.hid hf
  obtain ⟨A, c, rfl, hc, hm, -⟩ := hr
  clear hf
  go_enter Try.func19, Try.ntmps19
  go_wp2_with fail
  go_loopw [3] (fun i wr => ∃ k : Nat, k ≤ rs.length ∧ i = .int .i64 (k : Int) ∧ Below w.heap.size w wr ∧ (rs.take k).all (fun r => decide (r.text.size ≤ 2100) && decide (r.tag.size ≤ 100)) = true) (fun i _ => rs.length - (intOf i).toNat)
  case atStart => exact ⟨0, Nat.zero_le _, rfl, Below.refl _ _, by simp⟩
  case round =>
    obtain ⟨k, hk, rfl, hb, hall⟩ := hrel
    have HB := Lib.hid hb
    have HAL := Lib.hid hall
    clear hb hall
    by_cases hlt : k < rs.length
    · have hlt' : (k : Int) < (rs.length : Int) := by omega
      obtain ⟨a, c', ad, hv, hx, hat⟩ := (HR.out.below HB.out).at_ hlt
      injection hv with hv1 _ hv2
      subst hv1 hv2
      obtain ⟨r, hrr⟩ : ∃ r, rs[k] = r := ⟨_, rfl⟩
      have HRR := Lib.hid hrr
      have hfit := HF.out r (by rw [← hrr]; exact List.getElem_mem hlt)
      have HBAD := Lib.hid (fun h => few_bad hlt h : ¬ (rs[k].text.size ≤ 2100 ∧ rs[k].tag.size ≤ 100) → fewB rs = false)
      rw [hrr] at hat HBAD
      have HTK : Hid ((rs.take (k + 1)).all (fun r => decide (r.text.size ≤ 2100) && decide (r.tag.size ≤ 100)) = (decide (r.text.size ≤ 2100) && decide (r.tag.size ≤ 100))) := Lib.hid (by
        rw [List.take_add_one, List.getElem?_eq_getElem hlt, List.all_append, HAL.out, hrr]
        simp)
      obtain ⟨h1, h2, h3⟩ := hat
      obtain ⟨kd, tg, tx⟩ := r
      dsimp only at h1 h2 h3 hfit HBAD HTK
      clear hrr h1
      by_cases a1 : tx.size ≤ 2100
      · have a1' : ¬ (2100 : Int) < (tx.size : Int) := by omega
        by_cases a2 : tg.size ≤ 100
        · have a2' : ¬ (100 : Int) < (tg.size : Int) := by omega
          go_wp2_with fail
          go_roundw
          case rel => exact ⟨k + 1, hlt, by go_num, HB.out, by rw [HTK.out, decide_eq_true a1, decide_eq_true a2]; rfl⟩
          case measure => simp [intOf]; omega
        · have a2' : (100 : Int) < (tg.size : Int) := by omega
          have HG := Lib.hid (HBAD.out (fun h => a2 h.2))
          go_wp2_with fail
          go_ret
          rw [HG.out]
          exact ⟨rfl, HB.out⟩
      · have a1' : (2100 : Int) < (tx.size : Int) := by omega
        have HG := Lib.hid (HBAD.out (fun h => a1 h.1))
        go_wp2_with fail
        go_ret
        rw [HG.out]
        exact ⟨rfl, HB.out⟩
    · have hge : ¬ (k : Int) < (rs.length : Int) := by omega
      obtain rfl : k = rs.length := by omega
      have HG : Hid (fewB rs = decide (rs.length ≤ 25)) := Lib.hid (by
        have := HAL.out
        rw [List.take_length] at this
        unfold fewB
        rw [this]; rfl)
      clear HAL
      by_cases h2 : rs.length ≤ 25
      · have h2' : (rs.length : Int) ≤ 25 := by omega
        rw [decide_eq_true h2] at HG
        go_wp2_with fail
        go_ret
        rw [HG.out]
        exact ⟨rfl, HB.out⟩
      · have h2' : ¬ (rs.length : Int) ≤ 25 := by omega
        rw [decide_eq_false h2] at HG
        go_wp2_with fail
        go_ret
        rw [HG.out]
        exact ⟨rfl, HB.out⟩
end Go.Proofs.Ytmdecbockpgagaa

/- hornbooklaw22.WalRows. -/
namespace Go.Proofs.Ytmdecbockpgagaa
open Go.RowKit Go.Maps Go.Proofs.YtmdecbockpgagaaW.PrintWords Go.Proofs.YtmdecbockpgagaaW.PrintMore
variable {w w' : World}

/-- An own row of values that are read as groups (in the world w1). -/
def OwnV (w1 w : World) (base : Nat) (v : Value) (gs : List (List Rc)) : Prop := ∃ us : List Value, us.length = gs.length ∧ w.ownsRow base 32 1 v us.length us ∧ ∀ (i : Nat) (y : Value) (g : List Rc), us[i]? = some y → gs[i]? = some g → RdR w1 y g
variable {w1 : World}
theorem OwnV.sl {base : Nat} {v : Value} {gs : List (List Rc)} (h : OwnV w1 w base v gs) : ∃ A c, v = .slice A gs.length c ∧ gs.length ≤ c := by
  obtain ⟨us, h1, h2, -⟩ := h
  rcases h2.2 with ⟨rfl, h0⟩ | ⟨g, cap, cur, rfl, _, _, hc, _⟩
  · exact ⟨none, 0, by rw [← h1, h0], by omega⟩
  · exact ⟨_, _, by rw [h1], by omega⟩
/-- .. read, the first n of it. -/
theorem OwnV.rdG {base : Nat} {A : Option Addr} {m c : Nat} {gs : List (List Rc)} (h : OwnV w1 w base (.slice A m c) gs) (hb : Below w1.heap.size w1 w) (n : Nat) (hn : n ≤ gs.length) : RdG w (.slice A n c) (gs.take n) := by
  obtain ⟨us, h1, h2, h4⟩ := h
  have h2' := h2
  have hl : (gs.take n).length = n := by rw [List.length_take]; omega
  rcases h2.2 with ⟨he, h0⟩ | ⟨g, cap, cur, he, _, _, hc, _, _, _⟩
  · injection he with e1 e2 e3
    subst e1 e2 e3
    have h00 : n = 0 := by omega
    subst h00
    exact ⟨none, 0, by simp, fun h => absurd h (by simp)⟩
  · injection he with e1 e2 e3
    subst e1 e2 e3
    refine ⟨some ⟨g, 0, none⟩, c, by rw [hl], fun _ => ⟨g, rfl, fun i x hi => ?_⟩⟩
    have hlt := (List.getElem?_eq_some_iff.1 hi).1
    rw [hl] at hlt
    have hx : gs[i]? = some x := by rw [List.getElem?_take_of_lt hlt] at hi; exact hi
    refine ⟨us[i]'(by omega), by have := h2'.cells rfl _ _ (List.getElem?_eq_getElem (by omega : i < us.length)); rwa [add_plain] at this, ?_⟩
    exact (h4 i _ x (List.getElem?_eq_getElem (by omega)) hx).below hb
theorem OwnV.below {base : Nat} {v : Value} {gs : List (List Rc)} (h : OwnV w1 w base v gs) (hb : Below w.heap.size w w') : OwnV w1 w' base v gs := by
  obtain ⟨us, h1, h2, h4⟩ := h
  exact ⟨us, h1, pw_own_below h2 hb, h4⟩
theorem OwnV.apart {base b2 size n : Nat} {e : TypeId} {v u : Value} {xs : List Value} {gs : List (List Rc)} (h : OwnV w1 w base v gs) (ho : w.ownsRow b2 e size u n xs) (he : e ≠ 32) (hg : w.grownBy w' u.ownBlock) : OwnV w1 w' base v gs := by
  obtain ⟨us, h1, h2, h4⟩ := h
  exact ⟨us, h1, own_apart h2 ho (fun e' => he e'.symm) hg, h4⟩
theorem OwnG.rdG {base : Nat} {v : Value} {gs : List (List Rc)} (h : OwnG w base v gs) (hm : ∀ g ∈ gs, g.length ≤ 9223372036854775807) : RdG w v gs := by
  obtain ⟨us, h1, h2, h4⟩ := h
  have h2' := h2
  rcases h2.2 with ⟨rfl, h0⟩ | ⟨g, cap, cur, rfl, _, _, hc, _, _, _⟩
  · have : gs = [] := List.length_eq_zero_iff.1 (by omega)
    subst this
    exact ⟨none, 0, rfl, fun h => absurd h (by simp)⟩
  · refine ⟨some ⟨g, 0, none⟩, cap, by rw [h1], fun _ => ⟨g, rfl, fun i x hi => ?_⟩⟩
    have hlt := (List.getElem?_eq_some_iff.1 hi).1
    refine ⟨us[i]'(by omega), by have := h2'.cells rfl _ _ (List.getElem?_eq_getElem (by omega : i < us.length)); rwa [add_plain] at this, ?_⟩
    exact (h4 i _ x (List.getElem?_eq_getElem (by omega)) hi).rd (hm x (List.mem_of_getElem? hi))
theorem OwnG.sl {base : Nat} {v : Value} {gs : List (List Rc)} (h : OwnG w base v gs) : ∃ A c, v = .slice A gs.length c := by
  obtain ⟨us, h1, h2, -⟩ := h
  rcases h2.2 with ⟨rfl, h0⟩ | ⟨g, cap, cur, rfl, _⟩
  · exact ⟨none, 0, by rw [← h1, h0]⟩
  · exact ⟨_, _, by rw [h1]⟩
theorem RdGs.at_ {v : Value} {gs : List (List Rc)} (h : RdGs w v gs) {i : Nat} (hi : i < gs.length) : ∃ a c u, v = .slice (some a) gs.length c ∧
    (∀ W, (Instr.indexAt 27 (.slice (some a) gs.length c) (.int .i64 (i : Int))).run Try.prog W = .ok (.pointer (some (a.add i))) W) ∧ w.cell? (a.add i) = some u ∧ RdR w u gs[i] := by
  obtain ⟨A, c, rfl, hc, hm, hr⟩ := h
  obtain ⟨a, rfl, hx⟩ := hr (by omega)
  obtain ⟨u, h1, h2⟩ := hx i _ (List.getElem?_eq_getElem hi)
  refine ⟨a, c, u, rfl, fun W' => ?_, h1, h2⟩
  have h6 : 0 ≤ (i : Int) ∧ (i : Int) < (gs.length : Int) := ⟨by omega, by omega⟩
  go_simp
end Go.Proofs.Ytmdecbockpgagaa

namespace Go.Proofs.Ytmdecbockpgagaa
open Go.RowKit Go.Maps Go.Proofs.YtmdecbockpgagaaW.PrintWords Go.Proofs.YtmdecbockpgagaaW.PrintMore
variable {w w' : World}

/-- The groups that are ones. -/
def okG (gs : List (List Rc)) : List (List Rc) := gs.filter groupB
theorem okG_all (gs : List (List Rc)) : ∀ g ∈ okG gs, groupB g = true := fun _ hg => (List.mem_filter.1 hg).2
theorem okG_len (gs : List (List Rc)) : (okG gs).length ≤ gs.length := List.length_filter_le _ _
theorem okG_yes {gs : List (List Rc)} {k : Nat} (hk : k < gs.length) (h : groupB gs[k] = true) : okG (gs.take (k + 1)) = okG (gs.take k) ++ [gs[k]] := by
  unfold okG
  rw [List.take_add_one, List.getElem?_eq_getElem hk, List.filter_append]
  simp [h]
theorem okG_no {gs : List (List Rc)} {k : Nat} (hk : k < gs.length) (h : groupB gs[k] = false) : okG (gs.take (k + 1)) = okG (gs.take k) := by
  unfold okG
  rw [List.take_add_one, List.getElem?_eq_getElem hk, List.filter_append]
  simp [h]
/-- Where each group ends. -/
def endsL (gs : List (List Rc)) : List Int := (List.range gs.length).map fun i => ((catG (gs.take (i + 1))).length : Int)
theorem endsL_len (gs : List (List Rc)) : (endsL gs).length = gs.length := by simp [endsL]
theorem endsL_snoc (gs : List (List Rc)) (g : List Rc) : endsL (gs ++ [g]) = endsL gs ++ [((catG (gs ++ [g])).length : Int)] := by
  unfold endsL
  rw [List.length_append, List.length_singleton, List.range_succ, List.map_append]
  congr 1
  · refine List.map_congr_left (fun i hi => ?_)
    rw [List.mem_range] at hi
    rw [List.take_append_of_le_length (by omega)]
  · have : (gs ++ [g]).take (gs.length + 1) = gs ++ [g] := List.take_of_length_le (by simp)
    simp only [List.map_cons, List.map_nil, this]
theorem endsL_at {gs : List (List Rc)} {i : Nat} (hi : i < gs.length) : (endsL gs)[i]? = some ((catG (gs.take (i + 1))).length : Int) := by
  unfold endsL
  rw [List.getElem?_map, List.getElem?_eq_getElem (by simpa using hi)]
  simp
theorem enc_max' (l : List Rc) : (encG l).length ≤ 41070 := by
  cases h : groupB l with
  | false =>
    have : encG l = [] := if_neg (by rw [h]; decide)
    rw [this]; simp
  | true =>
    have h1 := recs_len l (groupB_all h)
    have h2 := groupB_len h
    rw [encG_yes h, List.length_append, frameB_length]
    simp
    omega
theorem enc_pos {l : List Rc} (h : groupB l = true) : 0 < (encG l).length := by
  rw [encG_yes h, List.length_append, frameB_length]
  simp
theorem catG_max : ∀ gs : List (List Rc), (catG gs).length ≤ 41070 * gs.length
  | [] => by simp [catG]
  | g :: gs => by
    have h1 := enc_max' g
    have h2 := catG_max gs
    show (encG g ++ catG gs).length ≤ _
    rw [List.length_append, List.length_cons]
    omega
theorem catG_by : ∀ gs : List (List Rc), By (catG gs)
  | [] => By.nil
  | g :: gs => by
    show By (encG g ++ catG gs)
    exact (encG_by g).append (catG_by gs)
theorem endsL_pos (gs : List (List Rc)) (i : Nat) : (catG (gs.take i)).length ≤ (catG gs).length := by
  have : catG gs = catG (gs.take i) ++ catG (gs.drop i) := by
    unfold catG
    rw [← List.flatMap_append, List.take_append_drop]
  rw [this, List.length_append]
  omega
theorem OwnV.push {w1 : World} {base : Nat} {u y : Value} {gs : List (List Rc)} {g : List Rc} (h : OwnV w1 w base u gs) (hy : RdR w1 y g) :
    ∃ us : List Value, us.length = gs.length ∧ w.ownsRow base 32 1 u us.length us ∧ ∀ (z1 : World) (v' : Value), z1.ownsRow base 32 1 v' (us.length + 1) (us ++ [y]) → OwnV w1 z1 base v' (gs ++ [g]) := by
  obtain ⟨us, h1, h2, h4⟩ := h
  refine ⟨us, h1, h2, fun z1 v' ho => ⟨us ++ [y], by simp [h1], by simpa using ho, fun i x g' hx hg' => ?_⟩⟩
  rcases Nat.lt_or_ge i us.length with hi | hi
  · rw [List.getElem?_append_left hi] at hx
    rw [List.getElem?_append_left (h1 ▸ hi)] at hg'
    exact h4 i x g' hx hg'
  · rw [List.getElem?_append_right hi] at hx
    rw [List.getElem?_append_right (by omega)] at hg'
    have hi0 : i - us.length = 0 := by
      rcases Nat.lt_or_ge (i - us.length) 1 with h' | h'
      · omega
      · rw [List.getElem?_eq_none (by simpa using h')] at hx; cases hx
    rw [hi0] at hx
    rw [show i - gs.length = 0 by omega] at hg'
    simp only [List.getElem?_cons_zero, Option.some.injEq] at hx hg'
    subst hx hg'
    exact hy
/-- How many groups are whole: but one number tells it. -/
theorem whole_one {gs : List (List Rc)} {k n m : Nat} (hn : n ≤ gs.length) (hm : m ≤ gs.length) (h1 : (catG (gs.take n)).length ≤ k) (h2 : n < gs.length → k < (catG (gs.take (n + 1))).length) (h3 : (catG (gs.take m)).length ≤ k) (h4 : m < gs.length → k < (catG (gs.take (m + 1))).length) : n = m := by
  have mono : ∀ a b, a ≤ b → (catG (gs.take a)).length ≤ (catG (gs.take b)).length := fun a b hab => by
    have : (gs.take b).take a = gs.take a := by rw [List.take_take, Nat.min_eq_left hab]
    have h := endsL_pos (gs.take b) a
    rwa [this] at h
  rcases Nat.lt_trichotomy n m with h | h | h
  · have := h2 (by omega)
    have := mono (n + 1) m (by omega)
    omega
  · exact h
  · have := h4 (by omega)
    have := mono (m + 1) n (by omega)
    omega
end Go.Proofs.Ytmdecbockpgagaa
