import Derived.Test.YtmdecbockpgagaaRowsMath
/- Groups of records as plain data: their bytes, and what bytes tell. -/
namespace Go.Proofs.Ytmdecbockpgagaa
open Go.RowKit Go.Proofs.YtmdecbockpgagaaW.PrintWords Go.Proofs.YtmdecbockpgagaaW.PrintMore

/-- A record. -/
structure Rc where
  kind : Int
  tag : ByteArray
  text : ByteArray
def Rc.Ok (r : Rc) : Prop := 0 ≤ r.kind ∧ r.kind < 256
/-- What a record's frame bears. -/
def rcB (r : Rc) : List Int := r.kind :: (txt r.tag ++ txt r.text)
def rightB (r : Rc) : Bool := ((decide (r.kind = 1) || (decide (r.kind = 2) && decide (r.text.size = 0))) && decide (r.tag.size ≤ 40)) && decide (r.text.size ≤ 2000)
def groupB (l : List Rc) : Bool := l.all rightB && (decide (1 ≤ l.length) && decide (l.length ≤ 20))
/-- The frames of a group. -/
def frG (l : List Rc) : List (List Int) := l.map rcB ++ [[3, (l.length : Int)]]
def encG (l : List Rc) : List Int := if groupB l = true then fcat (frG l) else []
theorem rightB_sizes {r : Rc} (h : rightB r = true) : r.tag.size ≤ 40 ∧ r.text.size ≤ 2000 ∧ (r.kind = 1 ∨ r.kind = 2) := by
  unfold rightB at h
  simp only [Bool.and_eq_true, Bool.or_eq_true, decide_eq_true_eq] at h
  exact ⟨h.1.2, h.2, h.1.1.imp id (·.1)⟩
theorem rightB_ok {r : Rc} (h : rightB r = true) : r.Ok := by
  have := (rightB_sizes h).2.2
  unfold Rc.Ok
  omega
theorem groupB_all {l : List Rc} (h : groupB l = true) : ∀ r ∈ l, rightB r = true := by
  unfold groupB at h
  simp only [Bool.and_eq_true, List.all_eq_true] at h
  exact h.1
theorem groupB_len {l : List Rc} (h : groupB l = true) : 1 ≤ l.length ∧ l.length ≤ 20 := by
  unfold groupB at h
  simp only [Bool.and_eq_true, decide_eq_true_eq] at h
  exact h.2
theorem rcB_len (r : Rc) : (rcB r).length = r.tag.size + r.text.size + 5 := by
  unfold rcB
  rw [List.length_cons, List.length_append, txt_length, txt_length]
  omega
theorem rcB_by {r : Rc} (h : r.Ok) : By (rcB r) := fun x hx => by
  rcases List.mem_cons.1 hx with rfl | hx
  · exact h
  · exact ((txt_by r.tag).append (txt_by r.text)) x hx
/-- The record that a frame bears. -/
def recOf : List Int → Option Rc
  | [] => none
  | k :: b => if (getT b 40).2.2 = 0 ∧ (getT (getT b 40).2.1 2000).2.2 = 0 ∧ (getT (getT b 40).2.1 2000).2.1 = [] ∧ rightB ⟨k, strOfNums (getT b 40).1, strOfNums (getT (getT b 40).2.1 2000).1⟩ = true
    then some ⟨k, strOfNums (getT b 40).1, strOfNums (getT (getT b 40).2.1 2000).1⟩ else none
theorem recOf_right {x : List Int} {r : Rc} (h : recOf x = some r) : rightB r = true := by
  cases x with
  | nil => cases h
  | cons k b =>
    have h' : (if (getT b 40).2.2 = 0 ∧ (getT (getT b 40).2.1 2000).2.2 = 0 ∧ (getT (getT b 40).2.1 2000).2.1 = [] ∧ rightB ⟨k, strOfNums (getT b 40).1, strOfNums (getT (getT b 40).2.1 2000).1⟩ = true
      then some (⟨k, strOfNums (getT b 40).1, strOfNums (getT (getT b 40).2.1 2000).1⟩ : Rc) else none) = some r := h
    by_cases hc : (getT b 40).2.2 = 0 ∧ (getT (getT b 40).2.1 2000).2.2 = 0 ∧ (getT (getT b 40).2.1 2000).2.1 = [] ∧ rightB ⟨k, strOfNums (getT b 40).1, strOfNums (getT (getT b 40).2.1 2000).1⟩ = true
    · rw [if_pos hc] at h'
      injection h' with h'
      rw [← h']
      exact hc.2.2.2
    · rw [if_neg hc] at h'
      cases h'
theorem recOf_rcB {r : Rc} (h : rightB r = true) : recOf (rcB r) = some r := by
  obtain ⟨h1, h2, -⟩ := rightB_sizes h
  have e1 : getT (txt r.tag ++ txt r.text) 40 = (bytesOf r.tag, txt r.text, 0) := by
    rw [getT_txt _ (by omega), if_neg (by omega)]
  have e2 : getT (txt r.text) 2000 = (bytesOf r.text, [], 0) := by
    have := getT_txt r.text (by omega) [] 2000
    rw [List.append_nil, if_neg (by omega)] at this
    exact this
  unfold rcB recOf
  simp only [e1, e2, strOfNums_bytesOf]
  rw [if_pos ⟨trivial, trivial, trivial, h⟩]
theorem recOf_end (n : Int) : recOf [3, n] = none := by
  have hr : ∀ s t : ByteArray, rightB ⟨3, s, t⟩ = false := fun s t => by simp [rightB]
  unfold recOf
  simp [hr]
/-- The groups that frames bear, and the place behind each. -/
def groupsF : List (List Int) → List Rc → Nat → List (List Rc × Nat)
  | [], _, _ => []
  | x :: xs, now, at_ => match recOf x with
    | some r => groupsF xs (now ++ [r]) (at_ + (x.length + 8))
    | none => if x = [3, (now.length : Int)] ∧ groupB now = true then (now, at_ + (x.length + 8)) :: groupsF xs [] (at_ + (x.length + 8)) else []
instance (bs : List Int) : Decidable (NextOk bs) := by unfold NextOk; infer_instance
/-- All frames that bytes begin with. -/
def allF : Nat → List Int → List (List Int)
  | 0, _ => []
  | n + 1, bs => if NextOk bs then nextX bs :: allF n (nextR bs) else []
def allB (bs : List Int) : List (List Int) := allF (bs.length + 1) bs
theorem nextR_len {bs : List Int} (h : NextOk bs) : (nextR bs).length + 8 ≤ bs.length := by
  obtain ⟨h1, -⟩ := h
  unfold nextR
  simp only [List.length_drop]
  omega
theorem allF_rows : ∀ (k n : Nat) (bs : List Int), AllN bs k → bs.length < n → allF n bs = rowsOf bs k
  | _, 0, bs, _, hn => by omega
  | 0, n + 1, bs, h, _ => by
    unfold allF
    rw [if_neg (show ¬ NextOk bs from h.2)]
    rfl
  | k + 1, n + 1, bs, h, hn => by
    have h0 : NextOk bs := h.1 0 (by omega)
    have := nextR_len h0
    unfold allF
    rw [if_pos h0, rowsOf_succ, allF_rows k n (nextR bs) ⟨fun i hi => by rw [← restAt_next]; exact h.1 (i + 1) (by omega), by rw [← restAt_next]; exact h.2⟩ (by omega)]
theorem allB_rows {bs : List Int} {k : Nat} (h : AllN bs k) : rowsOf bs k = allB bs := (allF_rows k _ bs h (Nat.lt_succ_self _)).symm
theorem allF_more : ∀ (n m : Nat) (bs : List Int), bs.length < n → bs.length < m → allF n bs = allF m bs
  | 0, _, _, h, _ => by omega
  | _, 0, _, _, h => by omega
  | n + 1, m + 1, bs, h1, h2 => by
    unfold allF
    by_cases h : NextOk bs
    · have := nextR_len h
      rw [if_pos h, if_pos h, allF_more n m _ (by omega) (by omega)]
    · rw [if_neg h, if_neg h]
theorem allB_next {bs : List Int} (h : NextOk bs) : allB bs = nextX bs :: allB (nextR bs) := by
  have := nextR_len h
  unfold allB
  rw [allF, if_pos h]
  rw [allF_more bs.length ((nextR bs).length + 1) _ (by omega) (by omega)]
theorem allB_none {bs : List Int} (h : ¬ NextOk bs) : allB bs = [] := by
  unfold allB allF
  rw [if_neg h]
theorem allB_frame (xs t : List Int) (h : xs.length ≤ 400000) : allB (frameB xs ++ t) = xs :: allB t := by
  obtain ⟨h1, h2, h3⟩ := frame_ok xs t h
  rw [allB_next h1, h2, h3]
theorem allB_fcat : ∀ (ls : List (List Int)) (t : List Int), (∀ l ∈ ls, l.length ≤ 400000) → allB (fcat ls ++ t) = ls ++ allB t
  | [], t, _ => rfl
  | x :: xs, t, h => by
    show allB (frameB x ++ fcat xs ++ t) = _
    rw [List.append_assoc, allB_frame _ _ (h x (by simp)), allB_fcat xs t (fun l hl => h l (by simp [hl]))]
    rfl
/-- The groups of bytes. -/
def gB (bs : List Int) : List (List Rc × Nat) := groupsF (allB bs) [] 0
def gsOf (bs : List Int) : List (List Rc) := (gB bs).map (·.1)
def endOf (bs : List Int) : Nat := ((gB bs).getLast?.map (·.2)).getD 0
theorem groupsF_shift : ∀ (xs : List (List Int)) (now : List Rc) (a b : Nat), groupsF xs now (a + b) = (groupsF xs now b).map fun p => (p.1, a + p.2)
  | [], _, _, _ => rfl
  | x :: xs, now, a, b => by
    unfold groupsF
    cases recOf x with
    | some r => simp only [Nat.add_assoc]; exact groupsF_shift xs _ a _
    | none =>
      simp only
      split
      · rw [List.map_cons, Nat.add_assoc, groupsF_shift xs [] a]
      · rfl
theorem groupsF_recs : ∀ (l now : List Rc) (ys : List (List Int)) (a : Nat), (∀ r ∈ l, rightB r = true) → groupsF (l.map rcB ++ ys) now a = groupsF ys (now ++ l) (a + fsum (l.map rcB) l.length)
  | [], now, ys, a, _ => by simp [fsum]
  | r :: l, now, ys, a, h => by
    rw [List.map_cons, List.cons_append, groupsF, recOf_rcB (h r (by simp))]
    simp only
    rw [groupsF_recs l (now ++ [r]) ys _ (fun x hx => h x (by simp [hx])), List.append_assoc]
    show groupsF ys (now ++ (r :: l)) _ = groupsF ys (now ++ (r :: l)) (a + ((rcB r).length + 8 + fsum (l.map rcB) l.length))
    rw [Nat.add_assoc]
theorem frG_small {l : List Rc} (h : ∀ r ∈ l, rightB r = true) : ∀ x ∈ frG l, x.length ≤ 400000 := by
  intro x hx
  unfold frG at hx
  rcases List.mem_append.1 hx with hx | hx
  · obtain ⟨r, hr, rfl⟩ := List.mem_map.1 hx
    obtain ⟨h1, h2, -⟩ := rightB_sizes (h r hr)
    rw [rcB_len]; omega
  · rw [List.mem_singleton] at hx
    subst hx
    simp
theorem encG_len {l : List Rc} (h : groupB l = true) : (encG l).length = fsum (l.map rcB) l.length + 10 := by
  unfold encG frG
  rw [if_pos h, fcat_length]
  have : ∀ (xs ys : List (List Int)), fsum (xs ++ ys) (xs ++ ys).length = fsum xs xs.length + fsum ys ys.length := by
    intro xs
    induction xs with
    | nil => intro ys; simp [fsum]
    | cons x xs ih =>
      intro ys
      show x.length + 8 + fsum (xs ++ ys) (xs ++ ys).length = x.length + 8 + fsum xs xs.length + _
      rw [ih ys]; omega
  rw [this, List.length_map]
  rfl
/-- What a group's bytes tell, with whatever behind them. -/
theorem gB_enc {l : List Rc} (h : groupB l = true) (t : List Int) : gB (encG l ++ t) = (l, (encG l).length) :: (gB t).map fun p => (p.1, (encG l).length + p.2) := by
  have hl := encG_len h
  have e : encG l = fcat (frG l) := if_pos h
  unfold gB
  rw [e, allB_fcat _ _ (frG_small (groupB_all h)), ← e]
  unfold frG
  rw [List.append_assoc, groupsF_recs l [] _ 0 (groupB_all h), List.nil_append, List.cons_append, List.nil_append, groupsF, recOf_end]
  simp only
  rw [if_pos ⟨trivial, h⟩, Nat.zero_add]
  have h2 : fsum (l.map rcB) l.length + (([3, (l.length : Int)] : List Int).length + 8) = (encG l).length := hl.symm
  rw [h2]
  congr 1
  exact (groupsF_shift (allB t) [] (encG l).length 0)
theorem gsOf_enc {l : List Rc} (h : groupB l = true) (t : List Int) : gsOf (encG l ++ t) = l :: gsOf t := by
  unfold gsOf
  rw [gB_enc h, List.map_cons, List.map_map]
  rfl
theorem gB_nil : gB [] = [] := by
  unfold gB
  rw [allB_none (short_bad [] (by simp))]
  rfl
end Go.Proofs.Ytmdecbockpgagaa

/- package wal: rows of records that are read; right. -/
namespace Go.Proofs.Ytmdecbockpgagaa
open Go.RowKit Go.Proofs.YtmdecbockpgagaaW.PrintWords Go.Proofs.YtmdecbockpgagaaW.PrintMore

def rcV (r : Rc) : Value := .agg #[.int .u8 r.kind, .string r.tag, .string r.text]
def rcC (r : Rc) : List Value := [.int .u8 r.kind, .string r.tag, .string r.text]
/-- A record lies at an address. -/
def RcAt (w : World) (ad : Addr) (r : Rc) : Prop := w.cell? ad = some (.int .u8 r.kind) ∧ w.cell? ⟨ad.block, ad.off + 1, none⟩ = some (.string r.tag) ∧ w.cell? ⟨ad.block, ad.off + 2, none⟩ = some (.string r.text)
theorem RcAt.below {w w1 : World} {ad : Addr} {r : Rc} (h : RcAt w ad r) (hb : Below w.heap.size w w1) : RcAt w1 ad r := ⟨pw_cell_below hb h.1, pw_cell_below hb h.2.1, pw_cell_below hb h.2.2⟩
/-- A row of records is read. -/
def RdR (w : World) (v : Value) (rs : List Rc) : Prop := ∃ A c, v = .slice A rs.length c ∧ rs.length ≤ c ∧ rs.length ≤ 9223372036854775807 ∧
  (0 < rs.length → ∃ a, A = some a ∧ ∀ (j : Nat) r, rs[j]? = some r → RcAt w (a.add (j * 3)) r)
theorem RdR.below {w w1 : World} {v : Value} {rs : List Rc} (h : RdR w v rs) (hb : Below w.heap.size w w1) : RdR w1 v rs := by
  obtain ⟨A, c, rfl, hc, hm, hr⟩ := h
  refine ⟨A, c, rfl, hc, hm, fun h0 => ?_⟩
  obtain ⟨a, rfl, hx⟩ := hr h0
  exact ⟨a, rfl, fun j r hj => (hx j r hj).below hb⟩
theorem RdR.nil (w : World) : RdR w (.slice none 0 0) [] := ⟨none, 0, rfl, Nat.le_refl _, by simp, fun h => absurd h (by simp)⟩
theorem RdR.at_ {w : World} {v : Value} {rs : List Rc} (h : RdR w v rs) {j : Nat} (hj : j < rs.length) :
    ∃ a c ad, v = .slice (some a) rs.length c ∧ (∀ W, (Instr.indexAt 32 (.slice (some a) rs.length c) (.int .i64 (j : Int))).run Try.prog W = .ok (.pointer (some ad)) W) ∧ RcAt w ad rs[j] := by
  obtain ⟨A, c, rfl, hc, _, hr⟩ := h
  obtain ⟨a, rfl, hx⟩ := hr (by omega)
  refine ⟨a, c, a.add (j * 3), rfl, fun W => ?_, hx j _ (List.getElem?_eq_getElem hj)⟩
  have h6 : 0 ≤ (j : Int) ∧ (j : Int) < (rs.length : Int) := ⟨by omega, by omega⟩
  go_simp
theorem str_none (s : ByteArray) : (s.toList == []) = decide (s.size = 0) := by
  by_cases h : s.size = 0
  · rw [decide_eq_true h]
    obtain rfl : s = ByteArray.empty := ByteArray.size_eq_zero_iff.1 h
    rw [ByteArray.toList_eq]
    rfl
  · rw [decide_eq_false h]
    rw [beq_eq_false_iff_ne]
    intro e
    apply h
    rw [ByteArray.toList_eq] at e
    have := congrArg List.length e
    rw [Array.length_toList] at this
    exact this
set_option maxHeartbeats 2000000 in
theorem wal_right (r : Rc) (w : World) : Calls Try.prog 62 #[rcV r] w fun e w' => e = .returned (.bool (rightB r)) ∧ Below w.heap.size w w' := by
  obtain ⟨k, tg, tx⟩ := r
  have hs := str_none tx
  have hB := (Below.refl w.heap.size w).alloc (Nat.le_refl _) (.cells #[.int .u8 k, .string tg, .string tx] 50)
  have HB := Lib.hid hB
  clear hB
  unfold rcV
  by_cases a : k = 1
  · subst a
    by_cases c : tg.size ≤ 40
    · have c' : (tg.size : Int) ≤ 40 := by omega
      by_cases d : tx.size ≤ 2000
      · have d' : (tx.size : Int) ≤ 2000 := by omega
        have HR : Hid (rightB ⟨1, tg, tx⟩ = true) := Lib.hid (by unfold rightB; simp [c, d])
        go_enter Try.func62, Try.ntmps62
        go_wp2_with fail
        go_ret
        exact ⟨by rw [HR.out]; rfl, HB.out⟩
      · have d' : ¬ (tx.size : Int) ≤ 2000 := by omega
        have HR : Hid (rightB ⟨1, tg, tx⟩ = false) := Lib.hid (by unfold rightB; simp [c, d])
        go_enter Try.func62, Try.ntmps62
        go_wp2_with fail
        go_ret
        exact ⟨by rw [HR.out]; rfl, HB.out⟩
    · have c' : ¬ (tg.size : Int) ≤ 40 := by omega
      have HR : Hid (rightB ⟨1, tg, tx⟩ = false) := Lib.hid (by unfold rightB; simp [c])
      go_enter Try.func62, Try.ntmps62
      go_wp2_with fail
      go_ret
      exact ⟨by rw [HR.out]; rfl, HB.out⟩
  · have a' : (k == 1) = false := by rw [beq_eq_false_iff_ne]; exact a
    by_cases b : k = 2
    · subst b
      by_cases z : tx.size = 0
      · rw [decide_eq_true z] at hs
        have d' : (tx.size : Int) ≤ 2000 := by omega
        by_cases c : tg.size ≤ 40
        · have c' : (tg.size : Int) ≤ 40 := by omega
          have HR : Hid (rightB ⟨2, tg, tx⟩ = true) := Lib.hid (by unfold rightB; simp [z, c])
          go_enter Try.func62, Try.ntmps62
          go_wp2_with fail
          go_ret
          exact ⟨by rw [HR.out]; rfl, HB.out⟩
        · have c' : ¬ (tg.size : Int) ≤ 40 := by omega
          have HR : Hid (rightB ⟨2, tg, tx⟩ = false) := Lib.hid (by unfold rightB; simp [c])
          go_enter Try.func62, Try.ntmps62
          go_wp2_with fail
          go_ret
          exact ⟨by rw [HR.out]; rfl, HB.out⟩
      · rw [decide_eq_false z] at hs
        have HR : Hid (rightB ⟨2, tg, tx⟩ = false) := Lib.hid (by unfold rightB; simp [z])
        go_enter Try.func62, Try.ntmps62
        go_wp2_with fail
        go_ret
        exact ⟨by rw [HR.out]; rfl, HB.out⟩
    · have b' : (k == 2) = false := by rw [beq_eq_false_iff_ne]; exact b
      have HR : Hid (rightB ⟨k, tg, tx⟩ = false) := Lib.hid (by unfold rightB; simp [a, b])
      go_enter Try.func62, Try.ntmps62
      go_wp2_with fail
      go_ret
      exact ⟨by rw [HR.out]; rfl, HB.out⟩
end Go.Proofs.Ytmdecbockpgagaa

/- package wal: group. -/
namespace Go.Proofs.Ytmdecbockpgagaa
open Go.RowKit Go.Proofs.YtmdecbockpgagaaW.PrintWords Go.Proofs.YtmdecbockpgagaaW.PrintMore

theorem all_take {rs : List Rc} {k : Nat} (hk : k < rs.length) (h : (rs.take k).all rightB = true) : ((rs.take (k + 1)).all rightB) = rightB rs[k] := by
  rw [List.take_add_one, List.getElem?_eq_getElem hk, List.all_append, h]
  simp
theorem group_bad {rs : List Rc} {k : Nat} (hk : k < rs.length) (h : rightB rs[k] = false) : groupB rs = false := by
  unfold groupB
  have : rs.all rightB = false := by
    rw [List.all_eq_false]
    exact ⟨_, List.getElem_mem hk, by rw [h]; decide⟩
  rw [this]; rfl
set_option maxRecDepth 100000 in
set_option maxHeartbeats 1000000 in
theorem wal_group (v : Value) (rs : List Rc) (w : World) (hr : RdR w v rs) : Calls Try.prog 34 #[v] w fun e w' => e = .returned (.bool (groupB rs)) ∧ Below w.heap.size w w' := by
  have HR := Lib.hid hr
  obtain ⟨A, c, rfl, hc, hm, -⟩ := hr
  go_enter Try.func34, Try.ntmps34
  go_wp2_with fail
  go_loopw [7] (fun i wr => ∃ k : Nat, k ≤ rs.length ∧ i = .int .i64 (k : Int) ∧ Below w.heap.size w wr ∧ (rs.take k).all rightB = true) (fun i _ => rs.length - (intOf i).toNat)
  case atStart => exact ⟨0, Nat.zero_le _, rfl, Below.refl _ _, by simp⟩
  case round =>
    obtain ⟨k, hk, rfl, hb, hall⟩ := hrel
    have HB := Lib.hid hb
    have HAL := Lib.hid hall
    clear hb hall
    by_cases hlt : k < rs.length
    · have hlt' : (k : Int) < (rs.length : Int) := by omega
      obtain ⟨a, c', ad, hv, hx, hat⟩ := (HR.out.below HB.out).at_ hlt
      injection hv with hv1 _ hv2
      subst hv1 hv2
      obtain ⟨r, hrr⟩ : ∃ r, rs[k] = r := ⟨_, rfl⟩
      have HRR := Lib.hid hrr
      rw [hrr] at hat
      obtain ⟨h1, h2, h3⟩ := hat
      obtain ⟨kd, tg, tx⟩ := r
      dsimp only at h1 h2 h3
      clear hrr
      have hB1 := (Below.refl wr.heap.size wr).alloc (Nat.le_refl _) (.cells #[.int .u8 kd, .string tg, .string tx] 50)
      have KR := Lib.hid (wal_right ⟨kd, tg, tx⟩ (wr.alloc (.cells #[.int .u8 kd, .string tg, .string tx] 50)))
      have HB1 := Lib.hid (HB.out.trans (hB1.mono HB.out.size))
      clear hB1
      go_wp2_with fail
      refine KR.out.mono ?_
      rintro e w2 ⟨rfl, hb⟩
      have HB2 := Lib.hid (HB1.out.trans (hb.mono HB1.out.size))
      clear hb KR
      obtain ⟨ok, hok⟩ : ∃ ok, rightB ⟨kd, tg, tx⟩ = ok := ⟨_, rfl⟩
      rw [hok]
      have HOK := Lib.hid hok
      clear hok
      cases ok with
      | false =>
        have HG := Lib.hid (group_bad hlt (by rw [HRR.out]; exact HOK.out))
        clear hx h1 h2 h3
        go_wp2_with fail
        go_ret
        rw [HG.out]
        exact ⟨rfl, HB2.out⟩
      | true =>
        have HG : Hid ((rs.take (k + 1)).all rightB = true) := Lib.hid (by rw [all_take hlt HAL.out, HRR.out]; exact HOK.out)
        clear hx h1 h2 h3
        go_wp2_with fail
        go_roundw
        case rel => exact ⟨k + 1, hlt, by go_num, HB2.out, HG.out⟩
        case measure => simp [intOf]; omega
    · have hge : ¬ (k : Int) < (rs.length : Int) := by omega
      obtain rfl : k = rs.length := by omega
      have HA : Hid (rs.all rightB = true) := Lib.hid (by have := HAL.out; rwa [List.take_length] at this)
      clear HAL
      have HG : Hid (groupB rs = (decide (1 ≤ rs.length) && decide (rs.length ≤ 20))) := Lib.hid (by unfold groupB; rw [HA.out]; rfl)
      by_cases h1 : 1 ≤ rs.length
      · have h1' : (1 : Int) ≤ (rs.length : Int) := by omega
        by_cases h2 : rs.length ≤ 20
        · have h2' : (rs.length : Int) ≤ 20 := by omega
          rw [decide_eq_true h1, decide_eq_true h2] at HG
          go_wp2_with fail
          go_ret
          rw [HG.out]
          exact ⟨rfl, HB.out⟩
        · have h2' : ¬ (rs.length : Int) ≤ 20 := by omega
          rw [decide_eq_true h1, decide_eq_false h2] at HG
          go_wp2_with fail
          go_ret
          rw [HG.out]
          exact ⟨rfl, HB.out⟩
      · have h1' : ¬ (1 : Int) ≤ (rs.length : Int) := by omega
        rw [decide_eq_false h1] at HG
        go_wp2_with fail
        go_ret
        rw [HG.out]
        exact ⟨rfl, HB.out⟩
end Go.Proofs.Ytmdecbockpgagaa

/- package wal: Encode. -/
namespace Go.Proofs.Ytmdecbockpgagaa
open Go.RowKit Go.Proofs.YtmdecbockpgagaaW.PrintWords Go.Proofs.YtmdecbockpgagaaW.PrintMore

theorem fcat_append : ∀ (xs ys : List (List Int)), fcat (xs ++ ys) = fcat xs ++ fcat ys
  | [], _ => rfl
  | x :: xs, ys => by
    show frameB x ++ fcat (xs ++ ys) = frameB x ++ fcat xs ++ fcat ys
    rw [fcat_append xs ys, List.append_assoc]
theorem recs_len : ∀ (l : List Rc), (∀ r ∈ l, rightB r = true) → (fcat (l.map rcB)).length ≤ 2053 * l.length
  | [], _ => by simp [fcat]
  | r :: l, h => by
    have ih := recs_len l (fun x hx => h x (by simp [hx]))
    obtain ⟨h1, h2, -⟩ := rightB_sizes (h r (by simp))
    show (frameB (rcB r) ++ fcat (l.map rcB)).length ≤ _
    rw [List.length_append, frameB_length, rcB_len, List.length_cons]
    omega
theorem fcat_one (x : List Int) : fcat [x] = frameB x := by
  show frameB x ++ [] = _
  rw [List.append_nil]
theorem encG_yes {l : List Rc} (h : groupB l = true) : encG l = fcat (l.map rcB) ++ frameB [3, (l.length : Int)] := by
  unfold encG frG
  rw [if_pos h, fcat_append, fcat_one]
theorem fcat_take {l : List Rc} {k : Nat} (h : k < l.length) : fcat ((l.take (k + 1)).map rcB) = fcat ((l.take k).map rcB) ++ frameB (rcB l[k]) := by
  rw [List.take_add_one, List.getElem?_eq_getElem h, List.map_append, fcat_append]
  congr 1
  exact fcat_one _
theorem blk_grown {W W1 : World} {base : Nat} {v : Value} {xs : List Int} (ho : OwnB W base v xs) (hg : W.grownBy W1 v.ownBlock) {g : Nat} {cs : Array Value} {t : TypeId} {fz : Nat × Nat} (hb : W.heap[g]? = some (.cells cs t fz)) (ht : t ≠ 5) : W1.heap[g]? = some (.cells cs t fz) := by
  refine (hg.block g (Array.getElem?_eq_some_iff.1 hb).1 (fun e => ?_)).trans hb
  rcases ho.2 with ⟨rfl, _⟩ | ⟨g', cap, cur, rfl, _, hg', _⟩
  · cases e
  · injection e with e
    subst e
    rw [hb] at hg'
    injection hg' with hg'
    injection hg' with _ h2
    exact ht h2
theorem cells_blk {w : World} {g : Nat} {cs : Array Value} {t : TypeId} {fz : Nat × Nat} (h : w.heap[g]? = some (.cells cs t fz)) (j : Nat) (v : Value) (hj : cs[j]? = some v) : w.cell? ⟨g, j, none⟩ = some v := by
  unfold World.cell?
  rw [h]
  exact hj
theorem alloc_new (w : World) (o : Obj) : (w.alloc o).heap[w.heap.size]? = some o := by unfold World.alloc; simp
set_option maxRecDepth 100000 in
set_option maxHeartbeats 2000000 in
theorem wal_encode (v : Value) (rs : List Rc) (w : World) (hr : RdR w v rs) : Calls Try.prog 26 #[v] w (NewB (encG rs) w) := by
  have HR := Lib.hid hr
  have KG := Lib.hid (wal_group v rs w hr)
  obtain ⟨A, c, rfl, hc, hm, -⟩ := hr
  obtain ⟨ok, hok⟩ : ∃ ok, groupB rs = ok := ⟨_, rfl⟩
  rw [hok] at KG
  cases ok with
  | false =>
    have HE : Hid (encG rs = []) := Lib.hid (if_neg (by rw [hok]; decide))
    clear hok
    go_enter Try.func26, Try.ntmps26
    go_wp2_with fail
    refine KG.out.mono ?_
    rintro e w1 ⟨rfl, hb⟩
    have HB := Lib.hid hb
    clear hb KG
    go_wp2_with fail
    go_ret
    rw [HE.out]
    exact ⟨_, rfl, OwnB.nil _ _, HB.out⟩
  | true =>
  have hlen := groupB_len hok
  have HALL := Lib.hid (groupB_all hok)
  have HE := Lib.hid (encG_yes hok)
  clear hok
  go_enter Try.func26, Try.ntmps26
  go_wp2_with fail
  refine KG.out.mono ?_
  rintro e w1 ⟨rfl, hb⟩
  have HB := Lib.hid hb
  clear hb KG
  go_wp2_with fail
  go_loopw [3, 11] (fun u i wr => ∃ k : Nat, k ≤ rs.length ∧ i = .int .i64 (k : Int) ∧ Below w.heap.size w wr ∧ OwnB wr w.heap.size u (fcat ((rs.take k).map rcB))) (fun _ i _ => rs.length - (intOf i).toNat)
  case atStart => exact ⟨0, Nat.zero_le _, rfl, HB.out, OwnB.nil _ _⟩
  case round =>
    obtain ⟨k, hk, rfl, hb, ho⟩ := hrel
    have HB1 := Lib.hid hb
    have HO1 := Lib.hid ho
    clear hb ho
    have hbl : (fcat ((rs.take k).map rcB)).length ≤ 2053 * k := by
      have := recs_len (rs.take k) (fun r hr => HALL.out r (List.mem_of_mem_take hr))
      rw [List.length_take] at this
      have : min k rs.length ≤ k := Nat.min_le_left _ _
      omega
    have HBL := Lib.hid hbl
    clear hbl
    by_cases hlt : k < rs.length
    · have hlt' : (k : Int) < (rs.length : Int) := by omega
      obtain ⟨a, c', ad, hv, hx, hat⟩ := (HR.out.below HB1.out).at_ hlt
      injection hv with hv1 _ hv2
      subst hv1 hv2
      have HT := Lib.hid (fcat_take hlt)
      have hrt := HALL.out _ (List.getElem_mem hlt)
      obtain ⟨r, hrr⟩ : ∃ r, rs[k] = r := ⟨_, rfl⟩
      rw [hrr] at hat HT hrt
      clear hrr
      obtain ⟨h1, h2, h3⟩ := hat
      obtain ⟨kd, tg, tx⟩ := r
      dsimp only at h1 h2 h3
      obtain ⟨bs, hbs⟩ : ∃ bs, fcat ((rs.take k).map rcB) = bs := ⟨_, rfl⟩
      rw [hbs] at HO1 HT HBL
      clear hbs
      have HSZ : Hid (tg.size ≤ 40 ∧ tx.size ≤ 2000) := Lib.hid (by obtain ⟨h1, h2, -⟩ := rightB_sizes hrt; exact ⟨h1, h2⟩)
      have HXB := Lib.hid (rcB_by (rightB_ok hrt))
      have HXL : Hid ((rcB ⟨kd, tg, tx⟩).length ≤ 140737488351232) := Lib.hid (by rw [rcB_len]; have := HSZ.out; dsimp only; omega)
      have HL9 : Hid (([kd] ++ (le (tg.size : Int) 2 ++ bytesOf tg)).length + 65537 ≤ 140737488355328) := Lib.hid (by
        have := HSZ.out
        simp only [List.length_append, List.length_singleton, le_length, bytesOf_length]
        omega)
      have HX : Hid ([kd] ++ (le (tg.size : Int) 2 ++ bytesOf tg) ++ (le (tx.size : Int) 2 ++ bytesOf tx) = rcB ⟨kd, tg, tx⟩) := Lib.hid (by rw [List.append_assoc]; rfl)
      have HLA : Hid ((bs.length + (frameB (rcB ⟨kd, tg, tx⟩)).length) * 1 ≤ 140737488355328) := Lib.hid (by
        rw [frameB_length, rcB_len]
        have := HSZ.out
        have := HBL.out
        dsimp only
        omega)
      obtain ⟨xr, hxr⟩ : ∃ xr, rcB ⟨kd, tg, tx⟩ = xr := ⟨_, rfl⟩
      rw [hxr] at HXB HXL HX HLA HT
      have hBa := ((Below.refl wr.heap.size wr).alloc (Nat.le_refl _) (.cells #[.int .u8 kd, .string tg, .string tx] 50)).drew
      have hnew : (wr.alloc (.cells #[.int .u8 kd, .string tg, .string tx] 50)).drew.heap[wr.heap.size]? = some (.cells #[.int .u8 kd, .string tg, .string tx] 50) := alloc_new wr _
      have HO5 := Lib.hid (HO1.out.below hBa)
      have HW5 := Lib.hid (HB1.out.trans (hBa.mono HB1.out.size))
      clear hBa hxr hrt HO1
      go_wp2_with fail
      generalize hY : (wr.alloc (.cells #[.int .u8 kd, .string tg, .string tx] 50)).drew = Y5 at *
      obtain ⟨rb, hrb⟩ : ∃ rb, wr.heap.size = rb := ⟨_, rfl⟩
      rw [hrb] at hnew
      have HN := Lib.hid hnew
      have SC : Hid (∀ W : World, W.heap[rb]? = some (.cells #[.int .u8 kd, .string tg, .string tx] 50) → W.cell? ⟨rb, 0, none⟩ = some (.int .u8 kd) ∧ W.cell? ⟨rb, 1, none⟩ = some (.string tg) ∧ W.cell? ⟨rb, 2, none⟩ = some (.string tx)) := Lib.hid (fun W h => ⟨cells_blk h 0 _ rfl, cells_blk h 1 _ rfl, cells_blk h 2 _ rfl⟩)
      have SS : Hid (∀ W : World, Below Y5.heap.size Y5 W → W.cell? ⟨rb, 0, none⟩ = some (.int .u8 kd) ∧ W.cell? ⟨rb, 1, none⟩ = some (.string tg) ∧ W.cell? ⟨rb, 2, none⟩ = some (.string tx)) := Lib.hid (fun W h => SC.out W ((h.block rb (Array.getElem?_eq_some_iff.1 HN.out).1).trans HN.out))
      have SG : Hid (∀ W W1 : World, OwnB W w.heap.size u3 bs → Below Y5.heap.size Y5 W → W.grownBy W1 u3.ownBlock → W1.cell? ⟨rb, 0, none⟩ = some (.int .u8 kd) ∧ W1.cell? ⟨rb, 1, none⟩ = some (.string tg) ∧ W1.cell? ⟨rb, 2, none⟩ = some (.string tx)) := Lib.hid (fun W W1 ho h hg => SC.out W1 (blk_grown ho hg ((h.block rb (Array.getElem?_eq_some_iff.1 HN.out).1).trans HN.out) (by decide)))
      clear hnew
      refine wp_region_noPanic ?_
      rw [hrb]
      refine wp_region_held_drew (S := fun W => W.cell? ⟨rb, 0, none⟩ = some (.int .u8 kd) ∧ W.cell? ⟨rb, 1, none⟩ = some (.string tg) ∧ W.cell? ⟨rb, 2, none⟩ = some (.string tx)) (by kernel_rfl) (by rw [hY]; exact SS.out _ (Below.refl _ _)) (fun hHeld => ?_)
      rw [hY] at hHeld ⊢
      clear hY hrb h1 h2 h3 hx
      refine held_take (i := 0) (v := ?_) rfl (by kernel_rfl) (by kernel_rfl) (by kernel_rfl) (fun _ _ _ h => h) (by rfl) hHeld ?y7_0 ?_
      case y7_0 => (intro w hSw; (try dsimp only at hSw); go_simp; try with_reducible rfl)
      try simp only [Act.put, List.setIfInBounds_toArray, List.set_cons_zero, List.set_cons_succ]
      refine held_take (i := 1) (v := ?_) rfl (by kernel_rfl) (by kernel_rfl) (by kernel_rfl) (fun _ _ _ h => h) (by rfl) hHeld ?y7_1 ?_
      case y7_1 => (intro w hSw; (try dsimp only at hSw); go_simp; try with_reducible rfl)
      try simp only [Act.put, List.setIfInBounds_toArray, List.set_cons_zero, List.set_cons_succ]
      refine held_take (i := 2) (v := ?_) rfl (by kernel_rfl) (by kernel_rfl) (by kernel_rfl) (fun _ _ _ h => h) (by rfl) hHeld ?y7_2 ?_
      case y7_2 => (intro w hSw; (try dsimp only at hSw); go_simp; try with_reducible rfl)
      try simp only [Act.put, List.setIfInBounds_toArray, List.set_cons_zero, List.set_cons_succ]
      refine held_take (i := 4) (v := ?_) rfl (by kernel_rfl) (by kernel_rfl) (by kernel_rfl) (fun _ _ _ h => h) (by rfl) hHeld ?y7_4 ?_
      case y7_4 => (intro w hSw; (try dsimp only at hSw); go_simp; try with_reducible rfl)
      try simp only [Act.put, List.setIfInBounds_toArray, List.set_cons_zero, List.set_cons_succ]
      refine held_take (i := 5) (v := ?_) rfl (by kernel_rfl) (by kernel_rfl) (by kernel_rfl) (fun _ _ _ h => h) (by rfl) hHeld ?y7_5 ?_
      case y7_5 => (intro w hSw; (try dsimp only at hSw); go_simp; try with_reducible rfl)
      try simp only [Act.put, List.setIfInBounds_toArray, List.set_cons_zero, List.set_cons_succ]
      refine held_take (i := 7) (v := ?_) rfl (by kernel_rfl) (by kernel_rfl) (by kernel_rfl) (fun _ _ _ h => h) (by rfl) hHeld ?y7_7 ?_
      case y7_7 => (intro w hSw; (try dsimp only at hSw); go_simp; try with_reducible rfl)
      try simp only [Act.put, List.setIfInBounds_toArray, List.set_cons_zero, List.set_cons_succ]
      refine held_take (i := 8) (v := ?_) rfl (by kernel_rfl) (by kernel_rfl) (by kernel_rfl) (fun _ _ _ h => h) (by rfl) hHeld ?y7_8 ?_
      case y7_8 => (intro w hSw; (try dsimp only at hSw); go_simp; try with_reducible rfl)
      try simp only [Act.put, List.setIfInBounds_toArray, List.set_cons_zero, List.set_cons_succ]
      refine held_one (i := 3) (by kernel_rfl) rfl (fun K hK => ?_)
      (go_simp; have hb3 := (Below.refl Y5.heap.size Y5).alloc (Nat.le_refl _) (.cells #[.int .u8 kd] 5); have ho3 := own_litB Y5 Y5.heap.size [kd] (Nat.le_refl _) (by simp); have hS3 := SS.out _ hb3)
      refine hK.out _ _ ?_ (fun hHeld => ?_)
      · exact hS3
      clear hK K
      try simp only [Act.put, List.setIfInBounds_toArray, List.set_cons_zero, List.set_cons_succ]
      refine held_one (i := 6) (by kernel_rfl) rfl (fun K hK => ?_)
      (refine step_call (by rfl) _ _ (by rfl) Try.func50 (by kernel_rfl) (by kernel_rfl) (by simp only [List.map_toArray, List.map_cons, List.map_nil]; rfl) ((crc_text Y5.heap.size _ [kd] tg (by have := HSZ.out; omega) _ (by exact ho3) hb3.size (by simp)).mono ?_); rintro e W6 ⟨v6, rfl, ho6, hg6, hn6⟩; have hb6 := hb3.trans (below_of_own hg6 (by exact ho3) hb3.size); have hS6 := SS.out _ hb6; refine ⟨_, rfl, ?_⟩)
      refine hK.out _ _ ?_ (fun hHeld => ?_)
      · exact hS6
      clear hK K
      try simp only [Act.put, List.setIfInBounds_toArray, List.set_cons_zero, List.set_cons_succ]
      refine held_one (i := 9) (by kernel_rfl) rfl (fun K hK => ?_)
      (refine step_call (by rfl) _ _ (by rfl) Try.func50 (by kernel_rfl) (by kernel_rfl) (by simp only [List.map_toArray, List.map_cons, List.map_nil]; rfl) ((crc_text Y5.heap.size _ _ tx (by have := HSZ.out; omega) _ (by exact ho6) hb6.size HL9.out).mono ?_); rintro e W9 ⟨v9, rfl, ho9, hg9, hn9⟩; have hb9 := hb6.trans (below_of_own hg9 (by exact ho6) hb6.size); have hS9 := SS.out _ hb9; rw [HX.out] at ho9; refine ⟨_, rfl, ?_⟩)
      refine hK.out _ _ ?_ (fun hHeld => ?_)
      · exact hS9
      clear hK K
      try simp only [Act.put, List.setIfInBounds_toArray, List.set_cons_zero, List.set_cons_succ]
      refine held_one (i := 10) (by kernel_rfl) rfl (fun K hK => ?_)
      (refine step_call (by rfl) _ _ (by rfl) Try.func49 (by kernel_rfl) (by kernel_rfl) (by simp only [List.map_toArray, List.map_cons, List.map_nil]; rfl) ((frame_frame v9 xr _ (OwnB.rd ho9) HXB.out HXL.out).mono ?_); rintro e W10 ⟨v10, rfl, ho10, hb10'⟩; have hb10 := hb9.trans (hb10'.mono hb9.size); have hS10 := SS.out _ hb10; obtain ⟨A10, c10, rfl, hc10, hr10⟩ := ho10.rd; have hob10 := HO5.out.below hb10; refine ⟨_, rfl, ?_⟩)
      refine hK.out _ _ ?_ (fun hHeld => ?_)
      · exact hS10
      clear hK K
      try simp only [Act.put, List.setIfInBounds_toArray, List.set_cons_zero, List.set_cons_succ]
      refine held_one (i := 11) (by kernel_rfl) rfl (fun K hK => ?_)
      (refine step_append_bytes w.heap.size (by rfl) (.tmp 15) (.tmp 25) _ _ (by rfl) Try.underlying22 info8 u3 bs (frameB xr) A10 (frameB xr).length c10 (by rfl) (by rfl) (by exact hob10) hr10 (Nat.le_trans HW5.out.size hb10.size) HLA.out ?_; intro v11 w11 ho11 hg11 hn11; have hS11 := SG.out _ _ hob10 hb10 hg11)
      refine hK.out _ _ ?_ (fun hHeld => ?_)
      · exact hS11
      clear hK K
      try simp only [Act.put, List.setIfInBounds_toArray, List.set_cons_zero, List.set_cons_succ]
      refine held_take (i := 12) (v := ?_) rfl (by kernel_rfl) (by kernel_rfl) (by kernel_rfl) (fun _ _ _ h => h) (by rfl) hHeld ?y7_12 ?_
      case y7_12 => (intro w hSw; (try dsimp only at hSw); go_simp; try with_reducible rfl)
      try simp only [Act.put, List.setIfInBounds_toArray, List.set_cons_zero, List.set_cons_succ]
      refine wpAnyH_done (by kernel_rfl) ?_ _
      refine NoPanic.normal ?_

      have hob11 : OwnB w11 w.heap.size v11 (fcat ((rs.take (k + 1)).map rcB)) := by
        rw [HT.out]
        exact ho11
      have HO11 := Lib.hid hob11
      have HB11 := Lib.hid (HW5.out.trans ((hb10.mono HW5.out.size).trans (below_of_own hg11 (by exact hob10) (Nat.le_trans HW5.out.size hb10.size))))
      clear hob11 ho11 hg11 hn11 hS11 hob10 hb10 hr10 hc10 ho10 hS10 hb10' hb9 ho9 hg9 hn9 hS9 hb6 ho6 hg6 hn6 hS6 hb3 ho3 hS3 hHeld
      go_wp2_with fail
      go_roundw
      case rel => exact ⟨k + 1, hlt, by go_num, HB11.out, HO11.out⟩
      case measure => simp [intOf]; omega
    · have hge : ¬ (k : Int) < (rs.length : Int) := by omega
      obtain rfl : k = rs.length := by omega
      rw [List.take_length] at HO1 HBL
      obtain ⟨bs, hbs⟩ : ∃ bs, fcat (rs.map rcB) = bs := ⟨_, rfl⟩
      rw [hbs] at HO1 HBL HE
      clear hbs
      obtain ⟨n, hn⟩ : ∃ n, rs.length = n := ⟨_, rfl⟩
      rw [hn] at hlen hge HBL HE hm
      have hmod : (n : Int) % 256 = (n : Int) := Int.emod_eq_of_lt (by omega) (by omega)
      have Hb := Lib.hid (below_alloc (Below.refl _ wr) (.cells #[.int .u8 3, .int .u8 (n : Int)] 5))
      have Ho := Lib.hid (own_litB wr wr.heap.size [3, (n : Int)] (Nat.le_refl _) (by simp))
      have Hby : Hid (By [3, (n : Int)]) := Lib.hid (fun y hy => by
        rcases List.mem_cons.1 hy with h | h
        · omega
        · rw [List.mem_singleton] at h; omega)
      have KF := Lib.hid (frame_frame _ [3, (n : Int)] (wr.alloc (.cells #[.int .u8 3, .int .u8 (n : Int)] 5)) (OwnB.rd Ho.out) Hby.out (by simp))
      have HLA : Hid ((bs.length + (frameB [3, (n : Int)]).length) * 1 ≤ 140737488355328) := Lib.hid (by
        rw [frameB_length]
        have := HBL.out
        simp only [List.length_cons, List.length_nil]
        omega)
      go_wp2_with fail
      refine KF.out.mono ?_
      rintro e w2 ⟨v2, rfl, ho2, hb2⟩
      have hB2 := Lib.hid (Hb.out.trans (hb2.mono Hb.out.size))
      have hob2 := Lib.hid (HO1.out.below hB2.out)
      obtain ⟨A2, c2, rfl, hc2, hr2⟩ := ho2.rd
      go_wp2_with (at_builtin; refine print_append_row (w0 := w2) w.heap.size rfl _ _ _ _ .u8 1 rfl Try.underlying22 info8 (by omega) u3 bs (frameB [3, (n : Int)]) A2 (frameB [3, (n : Int)]).length c2 rfl rfl hob2.out hr2 (Below.refl _ _) (Nat.le_trans HB1.out.size hB2.out.size) HLA.out ?_; intro v4 w4 ho4 hb4 hg4 hat4)
      go_ret
      rw [HE.out]
      exact ⟨_, rfl, ho4, HB1.out.trans ((hB2.out.mono HB1.out.size).trans (below_of_own hg4 hob2.out (Nat.le_trans HB1.out.size hB2.out.size)))⟩
end Go.Proofs.Ytmdecbockpgagaa
