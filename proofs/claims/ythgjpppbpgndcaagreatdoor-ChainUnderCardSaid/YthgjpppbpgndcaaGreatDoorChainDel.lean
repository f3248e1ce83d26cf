import Derived.Test.YthgjpppbpgndcaaGreatDoorChainCheck
import Derived.Lib.SliceRun
/- slices.IndexFunc and slices.DeleteFunc over a row of strings, the function one that lays things of its own. -/
namespace Go.Proofs.YthgjpppbpgndcaaGreatDoor
open Go.RowKit Go.Maps Go.Shelf Go.Proofs.YthgjpppbpgndcaaGreatDoorW.PrintWords Go.Proofs.YthgjpppbpgndcaaGreatDoorW.PrintMore
variable {w w' : World}

theorem own_cut {W : World} {base g n cap : Nat} {e : TypeId} {xs : List Value} (h : W.ownsRow base e 1 (.slice (some ⟨g, 0, none⟩) n cap) n xs) (k : Nat) (hk : k ≤ n) : W.ownsRow base e 1 (.slice (some ⟨g, 0, none⟩) k cap) k (xs.take k) := by
  have hl := h.1
  rcases h.2 with ⟨h', _⟩ | ⟨g', cap', cur, h', hb, hg, hnc, hcm, hcs, htk⟩
  · cases h'
  · injection h' with e1 e2 e3
    injection e1 with e1
    injection e1 with e1
    subst e1
    subst e3
    refine ⟨by rw [List.length_take, hl]; omega, .inr ⟨g, cap, cur, rfl, hb, hg, by omega, hcm, hcs, ?_⟩⟩
    rw [← htk, List.take_take]
    congr 1
    omega
set_option maxRecDepth 100000 in
theorem clear_own (W : World) {base g n cap : Nat} {xs : List Value} (h : W.ownsRow base 9 1 (.slice (some ⟨g, 0, none⟩) n cap) n xs) (k : Nat) (hk : k ≤ n) :
    ∃ A2 c2 W', (∀ X : World, (Instr.slice 30 (.slice (some ⟨g, 0, none⟩) n cap) (some (.int .i64 (k : Int))) none none).run Tryz.prog X = .ok (.slice A2 (n - k) c2) X) ∧
      (∀ ty, (Builtin.clear_ #[30] ty #[.slice A2 (n - k) c2]).run Tryz.prog W = .ok (.tuple #[]) W') ∧ W'.ownsRow base 9 1 (.slice (some ⟨g, 0, none⟩) k cap) k (xs.take k) ∧ W.grownBy W' (some g) := by
  obtain ⟨i, hi, hz0, hsz, hby⟩ := info_parts info9
  have hel : Tryz.prog.elem 30 = 9 := by simp [Program.elem, Tryz.underlying30]
  have hu : Tryz.prog.underlying 30 = some (.slice (Tryz.prog.elem 30)) := by rw [hel]; exact Tryz.underlying30
  have hsl : ∀ (X : World) (A : Option Addr) (c : Nat), n ≤ c → (Instr.slice 30 (.slice A n c) (some (.int .i64 (k : Int))) none none).run Tryz.prog X = .ok (.slice (if c = k then A else A.map (·.add k)) (n - k) (c - k)) X := fun X A c hnc => by
    have := run_slice_l (P := Tryz.prog) X 30 A n c hu .i64 (k : Int) (by omega) (by omega)
    rw [hel] at this
    refine this.trans ?_
    simp [sizeOf, typeInfo, hi, hsz, sliced, Result.andThen]
  have hcut := own_cut h k hk
  have hl := h.1
  rcases h.2 with ⟨h', _⟩ | ⟨g', cap', cur, h', hb, hg, hnc, hcm, hcs, htk⟩
  · cases h'
  · injection h' with e1 e2 e3
    injection e1 with e1
    injection e1 with e1
    subst e1
    subst e3
    rcases Nat.eq_or_lt_of_le hk with he | hlt
    · refine ⟨_, _, W, fun X => hsl X _ _ hnc, fun ty => ?_, hcut, World.grownBy.refl W _⟩
      rw [he, Nat.sub_self]
      by_cases hc : cap = n
      · rw [if_pos hc]
        simp [Builtin.clear_, run_underlying Tryz.underlying30]
      · rw [if_neg hc]
        simp [Builtin.clear_, run_underlying Tryz.underlying30]
    · have hc : ¬ cap = k := by omega
      have hn : 0 < n - k := by omega
      have hcell : ∀ j, j < n - k → (W.cell? ⟨g, k + j, none⟩).isSome = true := fun j hj => by
        unfold World.cell?
        rw [hg]
        have : k + j < cur.size := by omega
        simp [this]
      have hfr : ∀ j, j < n - k → W.frozen? ⟨g, k + j, none⟩ = false := fun j hj => by
        unfold World.frozen?
        rw [hg]
        simp
      have hrun : ∀ ty, _ := fun ty => Lib.run_clear_slice (P := Tryz.prog) W 30 9 ty (.string ByteArray.empty) Tryz.underlying30 (fun w => by simp [zeroValue, typeInfo, hi, hz0]) rfl rfl g k (n - k) (cap - k) hn hcell hfr
      refine ⟨some ⟨g, k, none⟩, cap - k, W.setCells g k (List.replicate (n - k) (.string ByteArray.empty)), fun X => ?_, hrun, ?_, ?_⟩
      · rw [hsl X _ _ hnc, if_neg hc]
        simp [add_plain]
      · obtain ⟨cur', h3, h4, h5⟩ := setCells_row (g := g) (e := 9) (List.replicate (n - k) (.string ByteArray.empty)) k W cur hg (by simp; omega)
        refine ⟨hcut.1, .inr ⟨g, cap, cur', rfl, hb, h3, by omega, hcm, by rw [h4, hcs], ?_⟩⟩
        have h7 : cur.toList.length = cur.size := Array.length_toList
        rw [h5, Nat.mul_one, List.append_assoc, List.take_left' (by rw [List.length_take]; omega), ← htk, List.take_take]
        congr 1
        omega
      · obtain ⟨h1, h2, h3, h4⟩ := setCells_same g (List.replicate (n - k) (.string ByteArray.empty)) k W
        refine ⟨h1, h2, h3, by rw [h4]; exact Nat.le_refl _, fun j hj hne => setCells_far _ _ _ (fun e => hne (by rw [e]))⟩

theorem slice_heads (A : Option Addr) (n c m : Nat) (hc : m ≤ c) (W : World) : (Instr.slice 30 (.slice A n c) none (some (.int .i64 (m : Int))) none).run Tryz.prog W = .ok (.slice A m c) W := by
  have h1 : 0 ≤ (m : Int) ∧ (m : Int) ≤ (c : Int) := ⟨by omega, by omega⟩
  go_simp
/-- A function that says pr of strings wherever what lay below n in w0 lies unturned. -/
def Says (n : Nat) (w0 : World) (g : Nat) (lb : Array Value) (ss : List Nm) (pr : Nm → Bool) : Prop :=
  ∀ x ∈ ss, ∀ W, Below n w0 W → Calls Tryz.prog g (#[.string (S x)] ++ lb) W fun e w' => e = .returned (.bool (pr x)) ∧ Below W.heap.size W w'
set_option maxRecDepth 100000 in
set_option maxHeartbeats 4000000 in
theorem lib_indexF {n : Nat} {w0 : World} {gf : Nat} {lb : Array Value} {ss : List Nm} {pr : Nm → Bool} {v : Value} (eg : ∀ args w, (callFunc gf args).run Tryz.prog w = .ok (.enter gf args) w) (hp : Says n w0 gf lb ss pr) (hn : n ≤ w.heap.size) (hw : Below n w0 w) (ho : OwnS w n v ss) (hl : ss.length ≤ 1000000) :
    Calls Tryz.prog 38 #[v, .func (.func gf) #[] lb] w fun e w' => ∃ r : Int, e = .returned (.int .i64 r) ∧ ((r = -1 ∧ ∀ x ∈ ss, pr x = false) ∨ ∃ (k : Nat) (hk : k < ss.length), r = (k : Int) ∧ pr ss[k] = true ∧ ∀ (j : Nat) (hj : j < k), pr (ss[j]'(by omega)) = false) ∧ Below w.heap.size w w' := by
  obtain ⟨A, c, rfl, -⟩ := ho.sl
  have HO := Lib.hid ho
  have HP := Lib.hid hp
  have HW := Lib.hid hw
  clear hp hw ho
  go_enter Tryz.func38, Tryz.ntmps38
  go_wp2_with fail
  go_loopw [8] (fun i wr => ∃ k : Nat, k ≤ ss.length ∧ i = .int .i64 (k : Int) ∧ Below w.heap.size w wr ∧ ∀ (j : Nat) (hj : j < ss.length), j < k → pr ss[j] = false) (fun i _ => ss.length - (intOf i).toNat)
  case atStart => exact ⟨0, Nat.zero_le _, rfl, Below.refl _ _, fun j _ h => absurd h (Nat.not_lt_zero _)⟩
  case round =>
    obtain ⟨k, hk, rfl, hb, hall⟩ := hrel
    have HBk := Lib.hid hb
    have HAL := Lib.hid hall
    clear hb hall
    by_cases hlt : k < ss.length
    · have hlt' : (k : Int) < (ss.length : Int) := by omega
      obtain ⟨g, rfl, hx, hcell⟩ := HO.out.at_ hlt
      have hc := hcell _ HBk.out
      have HC := Lib.hid (HP.out ss[k] (List.getElem_mem hlt) wr (HW.out.trans (HBk.out.mono hn)))
      obtain ⟨y, hy⟩ : ∃ y, ss[k] = y := ⟨_, rfl⟩
      rw [hy] at hc HC
      obtain ⟨b, hr⟩ : ∃ r, pr y = r := ⟨_, rfl⟩
      rw [hr] at HC
      have HY := Lib.hid hy
      have HRY := Lib.hid hr
      clear hcell hy hr
      cases b with
      | false =>
        go_wp2_with (go_at_fn gf; refine HC.out.mono ?_; rintro e w2 ⟨rfl, hb⟩; have HB2 := Lib.hid (HBk.out.trans (hb.mono HBk.out.size)); clear hb)
        go_roundw
        case rel => exact ⟨k + 1, hlt, by go_num, HB2.out, fun j hj hjk => by
            rcases Nat.lt_succ_iff_lt_or_eq.1 hjk with h1 | h1
            · exact HAL.out j hj h1
            · subst h1; rw [HY.out, HRY.out]⟩
        case measure => first | (simp [intOf]; done) | (simp [intOf]; omega)
      | true =>
        go_wp2_with (go_at_fn gf; refine HC.out.mono ?_; rintro e w2 ⟨rfl, hb⟩; have HB2 := Lib.hid (HBk.out.trans (hb.mono HBk.out.size)); clear hb)
        go_ret
        exact ⟨k, rfl, .inr ⟨k, hlt, rfl, by rw [HY.out, HRY.out], fun j hj => HAL.out j (by omega) hj⟩, HB2.out⟩
    · have hge : ¬ (k : Int) < (ss.length : Int) := by omega
      go_wp2
      go_ret
      refine ⟨-1, rfl, .inl ⟨rfl, fun x hx => ?_⟩, HBk.out⟩
      obtain ⟨j, hj, rfl⟩ := List.getElem_of_mem hx
      exact HAL.out j hj (by omega)
theorem own_free {W : World} {base g n cap : Nat} {e : TypeId} {xs : List Value} (h : W.ownsRow base e 1 (.slice (some ⟨g, 0, none⟩) n cap) n xs) {i : Nat} (hi : i < n) : ∃ u, W.cell? ⟨g, i, none⟩ = some u ∧ W.frozen? ⟨g, i, none⟩ = false := by
  rcases h.2 with ⟨h', _⟩ | ⟨g', cap', cur, h', hb, hg, hnc, hcm, hcs, htk⟩
  · cases h'
  · injection h' with e1 e2 e3
    injection e1 with e1
    injection e1 with e1
    subst e1
    subst e3
    have hlt : i < cur.size := by omega
    refine ⟨cur[i], ?_, ?_⟩
    · unfold World.cell?
      rw [hg]
      exact Array.getElem?_eq_getElem hlt
    · unfold World.frozen?
      rw [hg]
      simp
/-- How far DeleteFunc is. -/
structure DelI (pr : Nm → Bool) (ss : List Nm) (i j : Nat) (L : List Nm) : Prop where
  ij : i ≤ j
  js : j ≤ ss.length
  len : L.length = ss.length
  kept : L.take i = (ss.take j).filter fun x => !pr x
  rest : L.drop j = ss.drop j
theorem DelI.at_ {pr : Nm → Bool} {ss L : List Nm} {i j : Nat} (h : DelI pr ss i j L) (hj : j < ss.length) : L[j]'(by rw [h.len]; exact hj) = ss[j] := by
  have h1 := List.drop_eq_getElem_cons hj
  have h2 := List.drop_eq_getElem_cons (l := L) (i := j) (by rw [h.len]; exact hj)
  have := h.rest
  rw [h1, h2] at this
  injection this
theorem DelI.rest' {pr : Nm → Bool} {ss L : List Nm} {i j : Nat} (h : DelI pr ss i j L) : L.drop (j + 1) = ss.drop (j + 1) := by
  have := congrArg (List.drop 1) h.rest
  rwa [List.drop_drop, List.drop_drop] at this
theorem DelI.skip {pr : Nm → Bool} {ss L : List Nm} {i j : Nat} (h : DelI pr ss i j L) (hj : j < ss.length) (hp : pr ss[j] = true) : DelI pr ss i (j + 1) L :=
  ⟨Nat.le_succ_of_le h.ij, hj, h.len, by rw [h.kept, List.take_succ_eq_append_getElem hj, List.filter_append]; simp [hp], h.rest'⟩
theorem DelI.keep {pr : Nm → Bool} {ss L : List Nm} {i j : Nat} (h : DelI pr ss i j L) (hj : j < ss.length) (hp : pr ss[j] = false) : DelI pr ss (i + 1) (j + 1) (L.set i ss[j]) := by
  have hi : i < L.length := by have := h.ij; rw [h.len]; omega
  refine ⟨Nat.succ_le_succ h.ij, hj, by rw [List.length_set, h.len], ?_, ?_⟩
  · rw [List.take_succ_eq_append_getElem (by rw [List.length_set]; exact hi), List.getElem_set_self, List.take_set_of_le (Nat.le_refl _), h.kept, List.take_succ_eq_append_getElem hj, List.filter_append]
    simp [hp]
  · rw [List.drop_set_of_lt (by have := h.ij; omega), h.rest']
set_option maxRecDepth 100000 in
set_option maxHeartbeats 4000000 in
theorem lib_deleteF {n : Nat} {w0 : World} {gf : Nat} {lb : Array Value} {ss : List Nm} {pr : Nm → Bool} {v : Value} (eg : ∀ args w, (callFunc gf args).run Tryz.prog w = .ok (.enter gf args) w) (hp : Says n w0 gf lb ss pr) (hn : n ≤ w.heap.size) (hw : Below n w0 w) (ho : OwnS w n v ss) (hl : ss.length ≤ 1000000) :
    Calls Tryz.prog 21 #[v, .func (.func gf) #[] lb] w fun e w' => ∃ v', e = .returned v' ∧ OwnS w' n v' (ss.filter fun x => !pr x) ∧ Below n w0 w' := by
  have HI := Lib.hid (lib_indexF eg hp hn hw ho hl)
  obtain ⟨A, c, rfl, -⟩ := ho.sl
  have HO := Lib.hid ho
  have HP := Lib.hid hp
  have HW := Lib.hid hw
  clear hp hw ho
  go_enter Tryz.func21, Tryz.ntmps21
  go_wp2_with fail
  refine HI.out.mono ?_
  rintro e w1 ⟨r, rfl, hr, hb⟩
  have HO1 := Lib.hid (HO.out.below hb)
  have HB1 := Lib.hid (HW.out.trans (hb.mono hn))
  have hsz := hb.size
  clear HI hb
  rcases hr with ⟨rfl, hall⟩ | ⟨k, hk, rfl, hpk, hall⟩
  · have HE : Hid (ss.filter (fun x => !pr x) = ss) := Lib.hid (List.filter_eq_self.2 (fun x hx => by rw [hall x hx]; rfl))
    clear hall
    go_wp2_with fail
    go_ret
    rw [HE.out]
    exact ⟨_, rfl, HO1.out, HB1.out⟩
  · have HD : Hid (DelI pr ss k (k + 1) ss) := Lib.hid (by
      have h0 : DelI pr ss k k ss := ⟨Nat.le_refl _, by omega, rfl, (List.filter_eq_self.2 (fun x hx => by
        obtain ⟨j, hj, rfl⟩ := List.getElem_of_mem hx
        rw [List.length_take] at hj
        rw [List.getElem_take, hall j (by omega)]; rfl)).symm, rfl⟩
      exact h0.skip hk hpk)
    have hk1 : ((k : Int) == -1) = false := by rw [beq_eq_false_iff_ne]; omega
    obtain ⟨g, rfl, -⟩ := HO1.out.at_ hk
    have hgn : n ≤ g := (World.ownsRow.lt HO1.out g rfl).1
    clear hall hpk
    go_wp2_with fail
    go_loopw [5, 6] (fun s5 s6 wr => ∃ (i j : Nat) (L : List Nm), s5 = .int .i64 (i : Int) ∧ s6 = .int .i64 (j : Int) ∧ DelI pr ss i j L ∧ wr.ownsRow n 9 1 (.slice (some ⟨g, 0, none⟩) ss.length c) ss.length (L.map fun s => Value.string (S s)) ∧ Below n w0 wr) (fun _ s6 _ => ss.length - (intOf s6).toNat)
    case atStart => exact ⟨k, k + 1, ss, rfl, by go_num, HD.out, HO1.out, HB1.out⟩
    case round =>
      obtain ⟨i, j, L, rfl, rfl, hd, hro, hbb⟩ := hrel
      have HDD := Lib.hid hd
      have HRO := Lib.hid hro
      have HBB := Lib.hid hbb
      have hij := hd.ij
      have hjs := hd.js
      clear hd hro hbb
      by_cases hlt : j < ss.length
      · have hlt' : (j : Int) < (ss.length : Int) := by omega
        have hxj := idxSt g ss.length c j hlt
        have hxi := idxSt g ss.length c i (by omega)
        have hcj : wr.cell? ⟨g, j, none⟩ = some (.string (S ss[j])) := by
          have := World.ownsRow.cells HRO.out rfl j (.string (S ss[j])) (by rw [List.getElem?_map, List.getElem?_eq_getElem (by rw [HDD.out.len]; exact hlt), HDD.out.at_ hlt]; rfl)
          rwa [add_plain] at this
        have HC := Lib.hid (HP.out ss[j] (List.getElem_mem hlt) wr HBB.out)
        obtain ⟨y, hy⟩ : ∃ y, ss[j] = y := ⟨_, rfl⟩
        rw [hy] at hcj HC
        obtain ⟨b, hr⟩ : ∃ r, pr y = r := ⟨_, rfl⟩
        rw [hr] at HC
        have HY := Lib.hid hy
        have HRY := Lib.hid hr
        clear hy hr
        cases b with
        | true =>
          go_wp2_with (go_at_fn gf; refine HC.out.mono ?_; rintro e w2 ⟨rfl, hb⟩; have HB2 := Lib.hid hb; clear hb)
          go_roundw
          case rel => exact ⟨i, j + 1, L, rfl, by go_num, HDD.out.skip hlt (by rw [HY.out, HRY.out]), row_same HRO.out (fun k hk _ => HB2.out.block k hk), HBB.out.trans (HB2.out.mono (by have := (World.ownsRow.lt HRO.out g rfl).2; omega))⟩
          case measure => first | (simp [intOf]; done) | (simp [intOf]; omega)
        | false =>
          have HX : Hid (∀ w2, Below wr.heap.size wr w2 → w2.ownsRow n 9 1 (.slice (some ⟨g, 0, none⟩) ss.length c) ss.length (L.map fun s => Value.string (S s))) := Lib.hid (fun w2 hb => row_same HRO.out (fun k hk _ => hb.block k hk))
          go_wp2_with (go_at_fn gf; refine HC.out.mono ?_; rintro e w2 ⟨rfl, hb⟩; have HB2 := Lib.hid hb; obtain ⟨u, hcu, hfu⟩ : ∃ u, w2.cell? ⟨g, i, none⟩ = some u ∧ w2.frozen? ⟨g, i, none⟩ = false := own_free (HX.out _ HB2.out) (by omega); clear hb)
          go_roundw
          case rel =>
            have hs := (World.ownsRow.stored (HX.out _ HB2.out) i (.string (S y))).1
            rw [← List.map_set (f := fun s => Value.string (S s))] at hs
            refine ⟨i + 1, j + 1, L.set i y, by go_num, by go_num, ?_, hs, ?_⟩
            · have := HDD.out.keep hlt (by rw [HY.out, HRY.out])
              rwa [HY.out] at this
            · exact (HBB.out.trans (HB2.out.mono (by have := (World.ownsRow.lt HRO.out g rfl).2; omega))).setCell (p := ⟨g, i, none⟩) hgn _
          case measure => first | (simp [intOf]; done) | (simp [intOf]; omega)
      · have hge : ¬ (j : Int) < (ss.length : Int) := by omega
        have hje : j = ss.length := by omega
        have hin : i ≤ ss.length := by omega
        have HE : Hid (L.take i = ss.filter fun x => !pr x) := Lib.hid (by have := HDD.out.kept; rwa [hje, List.take_length] at this)
        obtain ⟨A2, c2, W', hr1, hr2, hro2, hg2⟩ := clear_own wr HRO.out i hin
        have HRO2 := Lib.hid hro2
        have HG2 := Lib.hid hg2
        have hr3 := fun W => slice_heads (some ⟨g, 0, none⟩) ss.length c i (by have := (owns_slice HRO.out); obtain ⟨_, _, he, h⟩ := this; injection he with _ _ e3; omega) W
        have hgl := (World.ownsRow.lt HRO.out g rfl).2
        clear hro2 hg2
        go_wp2_with fail
        go_ret
        refine ⟨_, rfl, ?_, HBB.out.grown HG2.out (by omega) (fun k e => by injection e with e; omega)⟩
        show World.ownsRow _ _ _ _ _ _ _
        rw [← HE.out, List.length_take, HDD.out.len, Nat.min_eq_left hin, List.map_take]
        exact HRO2.out
end Go.Proofs.YthgjpppbpgndcaaGreatDoor
