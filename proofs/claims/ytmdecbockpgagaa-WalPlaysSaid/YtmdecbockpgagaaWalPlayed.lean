import Derived.Test.YtmdecbockpgagaaWalBroken
/- The document's groups; steps of a play, read. -/
namespace Go.Proofs.Ytmdecbockpgagaa
open Go.RowKit Go.Proofs.YtmdecbockpgagaaW.PrintWords Go.Proofs.YtmdecbockpgagaaW.PrintMore

set_option maxHeartbeats 2000000 in
theorem ref21_record (r : Rc) (w : World) : Calls Try.prog 53 #[rcV r] w fun e w' => e = .returned (.bool (rightB r)) ∧ Below w.heap.size w w' := by
  obtain ⟨k, tg, tx⟩ := r
  have hs := str_none tx
  have hB := (Below.refl w.heap.size w).alloc (Nat.le_refl _) (.cells #[.int .u8 k, .string tg, .string tx] 50)
  have HB := Lib.hid hB
  clear hB
  unfold rcV
  by_cases a : k = 1
  · subst a
    by_cases c : tg.size ≤ 40
    · have c' : (tg.size : Int) ≤ 40 := by omega
      by_cases d : tx.size ≤ 2000
      · have d' : (tx.size : Int) ≤ 2000 := by omega
        have HR : Hid (rightB ⟨1, tg, tx⟩ = true) := Lib.hid (by unfold rightB; simp [c, d])
        go_enter Try.func53, Try.ntmps53
        go_wp2_with fail
        go_ret
        exact ⟨by rw [HR.out]; rfl, HB.out⟩
      · have d' : ¬ (tx.size : Int) ≤ 2000 := by omega
        have HR : Hid (rightB ⟨1, tg, tx⟩ = false) := Lib.hid (by unfold rightB; simp [c, d])
        go_enter Try.func53, Try.ntmps53
        go_wp2_with fail
        go_ret
        exact ⟨by rw [HR.out]; rfl, HB.out⟩
    · have c' : ¬ (tg.size : Int) ≤ 40 := by omega
      have HR : Hid (rightB ⟨1, tg, tx⟩ = false) := Lib.hid (by unfold rightB; simp [c])
      go_enter Try.func53, Try.ntmps53
      go_wp2_with fail
      go_ret
      exact ⟨by rw [HR.out]; rfl, HB.out⟩
  · have a' : (k == 1) = false := by rw [beq_eq_false_iff_ne]; exact a
    by_cases b : k = 2
    · subst b
      by_cases z : tx.size = 0
      · rw [decide_eq_true z] at hs
        have d' : (tx.size : Int) ≤ 2000 := by omega
        by_cases c : tg.size ≤ 40
        · have c' : (tg.size : Int) ≤ 40 := by omega
          have HR : Hid (rightB ⟨2, tg, tx⟩ = true) := Lib.hid (by unfold rightB; simp [z, c])
          go_enter Try.func53, Try.ntmps53
          go_wp2_with fail
          go_ret
          exact ⟨by rw [HR.out]; rfl, HB.out⟩
        · have c' : ¬ (tg.size : Int) ≤ 40 := by omega
          have HR : Hid (rightB ⟨2, tg, tx⟩ = false) := Lib.hid (by unfold rightB; simp [c])
          go_enter Try.func53, Try.ntmps53
          go_wp2_with fail
          go_ret
          exact ⟨by rw [HR.out]; rfl, HB.out⟩
      · rw [decide_eq_false z] at hs
        have HR : Hid (rightB ⟨2, tg, tx⟩ = false) := Lib.hid (by unfold rightB; simp [z])
        go_enter Try.func53, Try.ntmps53
        go_wp2_with fail
        go_ret
        exact ⟨by rw [HR.out]; rfl, HB.out⟩
    · have b' : (k == 2) = false := by rw [beq_eq_false_iff_ne]; exact b
      have HR : Hid (rightB ⟨k, tg, tx⟩ = false) := Lib.hid (by unfold rightB; simp [a, b])
      go_enter Try.func53, Try.ntmps53
      go_wp2_with fail
      go_ret
      exact ⟨by rw [HR.out]; rfl, HB.out⟩
set_option maxRecDepth 100000 in
set_option maxHeartbeats 1000000 in
theorem ref21_group (v : Value) (rs : List Rc) (w : World) (hr : RdR w v rs) : Calls Try.prog 29 #[v] w fun e w' => e = .returned (.bool (groupB rs)) ∧ Below w.heap.size w w' := by
  have HR := Lib.hid hr
  obtain ⟨A, c, rfl, hc, hm, -⟩ := hr
  go_enter Try.func29, Try.ntmps29
  go_wp2_with fail
  go_loopw [3] (fun i wr => ∃ k : Nat, k ≤ rs.length ∧ i = .int .i64 (k : Int) ∧ Below w.heap.size w wr ∧ (rs.take k).all rightB = true) (fun i _ => rs.length - (intOf i).toNat)
  case atStart => exact ⟨0, Nat.zero_le _, rfl, Below.refl _ _, by simp⟩
  case round =>
    obtain ⟨k, hk, rfl, hb, hall⟩ := hrel
    have HB := Lib.hid hb
    have HAL := Lib.hid hall
    clear hb hall
    by_cases hlt : k < rs.length
    · have hlt' : (k : Int) < (rs.length : Int) := by omega
      obtain ⟨a, c', ad, hv, hx, hat⟩ := (HR.out.below HB.out).at_ hlt
      injection hv with hv1 _ hv2
      subst hv1 hv2
      obtain ⟨r, hrr⟩ : ∃ r, rs[k] = r := ⟨_, rfl⟩
      have HRR := Lib.hid hrr
      rw [hrr] at hat
      obtain ⟨h1, h2, h3⟩ := hat
      obtain ⟨kd, tg, tx⟩ := r
      dsimp only at h1 h2 h3
      clear hrr
      have KR := Lib.hid (ref21_record ⟨kd, tg, tx⟩ wr)
      have HB1 := Lib.hid HB.out
      go_wp2_with fail
      refine KR.out.mono ?_
      rintro e w2 ⟨rfl, hb⟩
      have HB2 := Lib.hid (HB1.out.trans (hb.mono HB1.out.size))
      clear hb KR
      obtain ⟨ok, hok⟩ : ∃ ok, rightB ⟨kd, tg, tx⟩ = ok := ⟨_, rfl⟩
      rw [hok]
      have HOK := Lib.hid hok
      clear hok
      cases ok with
      | false =>
        have HG := Lib.hid (group_bad hlt (by rw [HRR.out]; exact HOK.out))
        clear hx h1 h2 h3
        go_wp2_with fail
        go_ret
        rw [HG.out]
        exact ⟨rfl, HB2.out⟩
      | true =>
        have HG : Hid ((rs.take (k + 1)).all rightB = true) := Lib.hid (by rw [all_take hlt HAL.out, HRR.out]; exact HOK.out)
        clear hx h1 h2 h3
        go_wp2_with fail
        go_roundw
        case rel => exact ⟨k + 1, hlt, by go_num, HB2.out, HG.out⟩
        case measure => simp [intOf]; omega
    · have hge : ¬ (k : Int) < (rs.length : Int) := by omega
      obtain rfl : k = rs.length := by omega
      have HA : Hid (rs.all rightB = true) := Lib.hid (by have := HAL.out; rwa [List.take_length] at this)
      clear HAL
      have HG : Hid (groupB rs = (decide (1 ≤ rs.length) && decide (rs.length ≤ 20))) := Lib.hid (by unfold groupB; rw [HA.out]; rfl)
      by_cases h1 : 1 ≤ rs.length
      · have h1' : (1 : Int) ≤ (rs.length : Int) := by omega
        by_cases h2 : rs.length ≤ 20
        · have h2' : (rs.length : Int) ≤ 20 := by omega
          rw [decide_eq_true h1, decide_eq_true h2] at HG
          go_wp2_with fail
          go_ret
          rw [HG.out]
          exact ⟨rfl, HB.out⟩
        · have h2' : ¬ (rs.length : Int) ≤ 20 := by omega
          rw [decide_eq_true h1, decide_eq_false h2] at HG
          go_wp2_with fail
          go_ret
          rw [HG.out]
          exact ⟨rfl, HB.out⟩
      · have h1' : ¬ (1 : Int) ≤ (rs.length : Int) := by omega
        rw [decide_eq_false h1] at HG
        go_wp2_with fail
        go_ret
        rw [HG.out]
        exact ⟨rfl, HB.out⟩
end Go.Proofs.Ytmdecbockpgagaa

namespace Go.Proofs.Ytmdecbockpgagaa
open Go.RowKit Go.Maps Go.Proofs.YtmdecbockpgagaaW.PrintWords Go.Proofs.YtmdecbockpgagaaW.PrintMore
variable {B p lb : Nat} {w0 : World} {G : DG} {d : DS} {w w' : World} {nm : Nm} {ng : Int} {br : Bool}

theorem lg_cell (hl : Lg w lb p nm ng br) (o : Nat) (v : Value) (h : w.cell? ⟨lb, o, none⟩ = some v) : v = pv p ∨ v = .string (S nm) ∨ v = .int .i64 ng ∨ v = .bool br := by
  unfold World.cell? at h
  rw [show w.heap[(⟨lb, o, none⟩ : Addr).block]? = _ from hl] at h
  have h' : (#[pv p, .string (S nm), .int .i64 ng, .bool br] : Array Value)[o]? = some v := h
  match o, h' with
  | 0, h' => injection h' with h'; exact .inl h'.symm
  | 1, h' => injection h' with h'; exact .inr (.inl h'.symm)
  | 2, h' => injection h' with h'; exact .inr (.inr (.inl h'.symm))
  | 3, h' => injection h' with h'; exact .inr (.inr (.inr h'.symm))
  | o + 4, h' => simp at h'
/-- A row of records that is read, behind a call of the log's. -/
theorem RdR.lt {v : Value} {rs : List Rc} {G' : DG} (hv : RdR w v rs) (hf : Far G v) (hl : Lg w lb p nm ng br) (t : LT lb w G w' G') : RdR w' v rs ∧ Far G' v := by
  obtain ⟨A, c, rfl, hc, hm, hr⟩ := hv
  have key : ∀ a, A = some a → 0 < rs.length → a.block < w.heap.size ∧ ¬ G.has a.block ∧ a.block ≠ lb := fun a ha h0 => by
    obtain ⟨a', ha', hx⟩ := hr h0
    rw [ha] at ha'
    cases ha'
    obtain ⟨h1, -, -⟩ := hx 0 _ (List.getElem?_eq_getElem h0)
    have h2 := World.block_lt_of_cell? w _ h1
    rw [add_block] at h2
    refine ⟨h2, hf a (rs.length - 1) c (by rw [ha, Nat.sub_add_cancel h0]), fun he => ?_⟩
    rw [Nat.zero_mul, add_nought] at h1
    obtain ⟨ab, ao, asp⟩ := a
    dsimp only at he
    subst he
    have h3 : w.cell? ⟨ab, ao, none⟩ = some (.int .u8 (rs[0]).kind) ∨ asp ≠ none := by
      cases asp with
      | none => exact .inl h1
      | some s => exact .inr (by simp)
    rcases h3 with h3 | h3
    · rcases lg_cell hl ao _ h3 with h | h | h | h <;> cases h
    · cases asp with
      | none => exact h3 rfl
      | some s =>
        unfold World.cell? at h1
        rw [show w.heap[(⟨ab, ao, some s⟩ : Addr).block]? = _ from hl] at h1
        simp at h1
  refine ⟨⟨A, c, rfl, hc, hm, fun h0 => ?_⟩, fun a n c2 he hh => ?_⟩
  · obtain ⟨a, rfl, hx⟩ := hr h0
    obtain ⟨k1, k2, k3⟩ := key a rfl h0
    have hb := t.block a.block k1 k2 k3
    refine ⟨a, rfl, fun j r hj => ?_⟩
    obtain ⟨h1, h2, h3⟩ := hx j r hj
    have hk : ∀ (ad : Addr) v, ad.block = a.block → w.cell? ad = some v → w'.cell? ad = some v := fun ad v he hv => (World.cell?_of_block (by rw [he]; exact hb)).trans hv
    exact ⟨hk _ _ (add_block _ _) h1, hk ⟨_, _, none⟩ _ (by show (a.add (j * 3)).block = _; exact add_block _ _) h2, hk ⟨_, _, none⟩ _ (by show (a.add (j * 3)).block = _; exact add_block _ _) h3⟩
  · injection he with e1 e2 e3
    obtain ⟨k1, k2, -⟩ := key a e1 (by omega)
    exact k2 (t.foot _ k1 hh)
theorem RdF.lt {v : Value} {gs : List (List Rc)} {G' : DG} (h : RdF G w v gs) (hl : Lg w lb p nm ng br) (t : LT lb w G w' G') : RdF G' w' v gs := by
  obtain ⟨A, c, us, rfl, h1, h2, h3⟩ := h
  refine ⟨A, c, us, rfl, h1, fun h0 => ?_, fun i u x hu hx => (h3 i u x hu hx).1.lt (h3 i u x hu hx).2 hl t⟩
  obtain ⟨g, rfl, hn, hlt, hc⟩ := h2 h0
  have hne : g ≠ lb := fun he => by
    subst he
    have hu := List.getElem?_eq_getElem (show 0 < us.length by omega)
    have hx := List.getElem?_eq_getElem h0
    obtain ⟨A', c', he, -⟩ := (h3 0 _ _ hu hx).1
    have hcell := hc 0 _ hu
    rw [he] at hcell
    rcases lg_cell hl 0 _ hcell with h | h | h | h <;> cases h
  exact ⟨g, rfl, fun hh => hn (t.foot g hlt hh), Nat.lt_of_lt_of_le hlt t.size, fun i u hu => (World.cell?_of_block (t.block g hlt hn hne)).trans (hc i u hu)⟩
/-- A step of a play. -/
structure Stp where
  what : Int
  g : List Rc
  power : Int
  cs : List Int
instance : Inhabited Stp := ⟨⟨0, [], 0, []⟩⟩
def Stp.Ok (s : Stp) : Prop := Fits s.g ∧ By s.cs ∧ (-9223372036854775808 ≤ s.what ∧ s.what < 9223372036854775808) ∧ (-9223372036854775808 ≤ s.power ∧ s.power < 9223372036854775808)
/-- A step lies at an address. -/
def StAt (w : World) (a : Addr) (j : Nat) (s : Stp) : Prop := ∃ vg vc, w.cell? (a.add (j * 4)) = some (.int .i64 s.what) ∧ w.cell? (a.add (j * 4 + 1)) = some vg ∧ w.cell? (a.add (j * 4 + 2)) = some (.int .i64 s.power) ∧ w.cell? (a.add (j * 4 + 3)) = some vc ∧ RdR w vg s.g ∧ RdB w vc s.cs
def RdP (w : World) (v : Value) (ls : List Stp) : Prop := ∃ A c, v = .slice A ls.length c ∧ ls.length ≤ c ∧ (0 < ls.length → ∃ a, A = some a ∧ ∀ (j : Nat) s, ls[j]? = some s → StAt w a j s)
theorem StAt.below {a : Addr} {j : Nat} {s : Stp} (h : StAt w a j s) (hb : Below w.heap.size w w') : StAt w' a j s := by
  obtain ⟨vg, vc, h1, h2, h3, h4, h5, h6⟩ := h
  exact ⟨vg, vc, pw_cell_below hb h1, pw_cell_below hb h2, pw_cell_below hb h3, pw_cell_below hb h4, h5.below hb, RdB.below h6 hb⟩
theorem RdP.below {v : Value} {ls : List Stp} (h : RdP w v ls) (hb : Below w.heap.size w w') : RdP w' v ls := by
  obtain ⟨A, c, rfl, hc, hr⟩ := h
  refine ⟨A, c, rfl, hc, fun h0 => ?_⟩
  obtain ⟨a, rfl, hx⟩ := hr h0
  exact ⟨a, rfl, fun j s hj => (hx j s hj).below hb⟩
theorem RdP.at_ {v : Value} {ls : List Stp} (h : RdP w v ls) {j : Nat} (hj : j < ls.length) :
    ∃ a c, v = .slice (some a) ls.length c ∧ (∀ W, (Instr.indexAt 55 (.slice (some a) ls.length c) (.int .i64 (j : Int))).run Try.prog W = .ok (.pointer (some (a.add (j * 4)))) W) ∧ StAt w a j ls[j] := by
  obtain ⟨A, c, rfl, hc, hr⟩ := h
  obtain ⟨a, rfl, hx⟩ := hr (by omega)
  refine ⟨a, c, rfl, fun W => ?_, hx j _ (List.getElem?_eq_getElem hj)⟩
  have h6 : 0 ≤ (j : Int) ∧ (j : Int) < (ls.length : Int) := ⟨by omega, by omega⟩
  go_simp
end Go.Proofs.Ytmdecbockpgagaa

namespace Go.Proofs.Ytmdecbockpgagaa
open Go.ChangeShapes Go.WideShapes Go.ChangeAt Go.RowKit
theorem trod_struct4 {H : Type} {enc : TypeId × Value → H} {P : Program} {w : World} {base : Nat} {spare : Nat → Bool} {held : Bool} {t : TypeId} {f0 f1 f2 f3 : Field} {fuel : Nat} {cs : List Value} {x : DataW H × List MemPlace} (ht : P.underlying t = some (.struct #[f0, f1, f2, f3])) (h : DataW.trod enc P w base spare held fuel t cs = some x) :
    ∃ y0 y1 y2 y3 n, x = (.agg [y0.1, y1.1, y2.1, y3.1], y0.2 ++ (y1.2 ++ (y2.2 ++ y3.2))) ∧ cs.length = P.cellsOf t ∧ DataW.trod enc P w base spare held n f0.type ((cs.drop f0.offset).take (P.cellsOf f0.type)) = some y0 ∧
      DataW.trod enc P w base spare held n f1.type ((cs.drop f1.offset).take (P.cellsOf f1.type)) = some y1 ∧ DataW.trod enc P w base spare held n f2.type ((cs.drop f2.offset).take (P.cellsOf f2.type)) = some y2 ∧ DataW.trod enc P w base spare held n f3.type ((cs.drop f3.offset).take (P.cellsOf f3.type)) = some y3 := by
  obtain ⟨xs, n, _, rfl, hl, hlen, hf⟩ := DataW.trod_struct ht h
  match xs, hlen with
  | [y0, y1, y2, y3], _ => exact ⟨y0, y1, y2, y3, n, by simp, hl, by simpa using hf 0 f0 rfl, by simpa using hf 1 f1 rfl, by simpa using hf 2 f2 rfl, by simpa using hf 3 f3 rfl⟩
theorem bytes_in {H : Type} {enc : TypeId × Value → H} {W : World} {fuel : Nat} {cs : List Value} {X : DataW H × List MemPlace}
    (hf : DataW.trod enc Try.prog W 0 (fun _ => true) true fuel 22 cs = some X) : ∃ v xs, cs = [v] ∧ RdB W v xs ∧ By xs := by
  rcases open_ints Try.underlying22 Try.underlying5 (by kernel_rfl) hf with ⟨hcs, _⟩ | ⟨x, len, cap, zs, hcs, _, hl2, hm, hz, _, hcell, hwz⟩
  · exact ⟨_, [], hcs, ⟨none, 0, rfl, Nat.le_refl _, rfl, by simp, fun h => absurd h (by simp)⟩, fun _ h => by simp at h⟩
  · have hz' : zs.length = cap := by simpa using hz
    have htl : (zs.take len).length = len := by rw [List.length_take]; omega
    refine ⟨_, zs.take len, hcs, ⟨some x, cap, by rw [htl], by omega, by rw [htl], ?_, fun _ => ⟨x, rfl, fun j hj => ?_⟩⟩, fun y hy => ?_⟩
    · rw [htl]; simp only [maxLen] at hm; omega
    · rw [hcell j (by omega)]
      rw [htl] at hj
      simp [List.getD_eq_getElem?_getD, hj]
    · have := hwz y (List.mem_of_mem_take hy)
      exact wf_u8 this
set_option maxRecDepth 100000 in
theorem open_plays {H : Type} {enc : TypeId × Value → H} {W : World} {v : Value} {d : DataW H} {ps : List MemPlace} {ts : List TypeId} {ds : List (DataW H)} {j : Nat}
    (hsz : (DataW.weightsEach Try.prog ts ds).all (· ≤ reachBytes) = true) (ht : ts[j]? = some 55) (hd : ds[j]? = some d)
    (h : DataW.Trod enc Try.prog W 0 (fun _ => true) true 55 v d ps) (hv : Value.okWide Try.prog W .any 0 55 v) :
    ∃ xs, RdP W v xs ∧ ∀ s ∈ xs, Stp.Ok s := by
  obtain ⟨a, len, cap, rfl⟩ := okWide_slice Try.underlying55 hv
  obtain ⟨fuel, hf⟩ := h
  rcases Go.Deep.open_slice Try.underlying55 hf with ⟨hcs, _⟩ | ⟨x, l, c, m, n, D, Pl, hcs, _, hl2, hm, hmm, hxe, hx⟩
  · simp [Value.cells] at hcs
    obtain ⟨rfl, rfl, rfl⟩ := hcs
    exact ⟨[], ⟨none, 0, rfl, Nat.le_refl _, fun h => absurd h (by simp)⟩, fun s hs => by simp at hs⟩
  · simp [Value.cells] at hcs
    obtain ⟨rfl, rfl, rfl⟩ := hcs
    have hlm : len ≤ m := by rw [hmm]; split <;> omega
    simp only [Prod.mk.injEq] at hxe
    have each : ∀ i, i < len → ∃ q : Stp, StAt W x i q ∧ q.Ok := by
      intro i hi
      obtain ⟨cs, h1, h2⟩ := hx i (by omega)
      rw [show Try.prog.cellsOf 57 = 4 by kernel_rfl] at h1
      obtain ⟨_, hlen, hcell⟩ := World.cells?_some h1
      obtain ⟨y0, y1, y2, y3, k, hD, hl, g0, g1, g2, g3⟩ := trod_struct4 Try.underlying57 h2
      match cs, hlen with
      | [v0, v1, v2, v3], _ =>
      have e0 := hcell 0 (by omega)
      have e1 := hcell 1 (by omega)
      have e2 := hcell 2 (by omega)
      have e3 := hcell 3 (by omega)
      rw [Go.Deep.add_add] at e0 e1 e2 e3
      rw [show Try.prog.cellsOf 3 = 1 by kernel_rfl] at g0 g2
      rw [show Try.prog.cellsOf 32 = 1 by kernel_rfl] at g1
      rw [show Try.prog.cellsOf 22 = 1 by kernel_rfl] at g3
      simp only [List.drop_zero, List.drop_succ_cons, List.take_succ_cons, List.take_zero] at g0 g1 g2 g3
      obtain ⟨b0, hb0, hy0, w0⟩ := DataW.trod_int Try.underlying3 g0
      obtain ⟨b2, hb2, hy2, w2⟩ := DataW.trod_int Try.underlying3 g2
      have hmem : D i ∈ (List.range len).map D := List.mem_map.2 ⟨i, List.mem_range.2 hi, rfl⟩
      have hw : ∀ n ∈ (D i).weights Try.prog 57, n ≤ reachBytes := fun n hn => by
        refine of_decide_eq_true (List.all_eq_true.1 hsz _ (DataW.weights_mem_each ht hd _ ?_))
        rw [hxe.1]
        simp only [DataW.weights, Try.underlying55, List.mem_cons, List.mem_append]
        exact Or.inr (Or.inl (weightsAll_memR hmem _ hn))
      simp only [Prod.mk.injEq] at hD
      rw [hD.1] at hw
      simp only [DataW.weights, Try.underlying57] at hw
      obtain ⟨v1', rs, hc1, r1, r2⟩ := recs_in g1 (fun n hn => hw n (by simp [DataW.weightsEach]; exact .inr (.inl hn)))
      obtain ⟨v3', xs, hc3, r3, r4⟩ := bytes_in g3
      simp only [List.cons.injEq, and_true] at hb0 hb2 hc1 hc3
      subst hb0 hb2 hc1 hc3
      exact ⟨⟨b0, rs, b2, xs⟩, ⟨_, _, by simpa using e0, by simpa using e1, by simpa using e2, by simpa using e3, r1, r3⟩, r2, r4, wf_i64 w0, wf_i64 w2⟩
    obtain ⟨q, hq⟩ := Go.Deep.choose_lt each
    have htl : ((List.range len).map q).length = len := by simp
    refine ⟨(List.range len).map q, ⟨some x, cap, by rw [htl], by rw [htl]; exact hl2, fun h0 => ⟨x, rfl, fun i y hy => ?_⟩⟩, fun s hs => ?_⟩
    · rw [List.getElem?_map] at hy
      obtain ⟨i', hi', rfl⟩ := Option.map_eq_some_iff.1 hy
      obtain ⟨hi1, hi2⟩ := List.getElem?_eq_some_iff.1 hi'
      rw [List.length_range] at hi1
      rw [List.getElem_range] at hi2
      subst hi2
      exact (hq i hi1).1
    · obtain ⟨i, hi, rfl⟩ := List.mem_map.1 hs
      rw [List.mem_range] at hi
      exact (hq i hi).2
end Go.Proofs.Ytmdecbockpgagaa

/- hornbooklaw22.WalPlays. -/
namespace Go.Proofs.Ytmdecbockpgagaa
open Go.RowKit Go.Maps Go.Proofs.YtmdecbockpgagaaW.PrintWords Go.Proofs.YtmdecbockpgagaaW.PrintMore
variable {B p lb : Nat} {w0 : World} {G : DG} {d : DS} {w w' : World} {nm : Nm} {ng : Int} {br : Bool}

theorem add_next (a : Addr) (n r : Nat) (hr : 0 < r) : a.add (n + r) = ⟨(a.add n).block, (a.add n).off + r, none⟩ := by
  unfold Addr.add
  by_cases h : n = 0
  · subst h
    rw [if_neg (by omega), if_pos rfl, Nat.zero_add]
  · rw [if_neg (by omega), if_neg h]
    simp
    omega
/-- A row's room. -/
def CapV (v : Value) : Prop := ∀ A n c, v = .slice A n c → n ≤ c
theorem CapV.nil : CapV (.slice none 0 0) := fun A n c h => by injection h with _ h2 h3; omega
theorem OwnA.cap {base : Nat} {v : Value} {gs : List (List Rc)} (h : OwnA G w base v gs) : CapV v := fun A n c he => by
  obtain ⟨us, h1, h2, -⟩ := h
  rcases h2.2 with ⟨hv, h0⟩ | ⟨g', cap, cur, hv, _, _, hc, _⟩
  · rw [hv] at he; injection he with _ e2 e3; omega
  · rw [hv] at he; injection he with _ e2 e3; omega
/-- What may lie in the file behind a crash, of bytes. -/
def GoodB (ms ns : List (List Rc)) (b : List Int) : Prop := By b ∧ (gsOf b = ms ∨ gsOf b = ns) ∧ endOf b ≤ b.length ∧ b.length ≤ 45000
/-- .. but one row of groups. -/
def OneB (ms : List (List Rc)) (b : List Int) : Prop := By b ∧ gsOf b = ms ∧ endOf b ≤ b.length ∧ b.length ≤ 45000
theorem one_cat {gs : List (List Rc)} (hg : ∀ g ∈ gs, groupB g = true) (hl : (catG gs).length ≤ 45000) : OneB gs (catG gs) := by
  obtain ⟨h1, h2⟩ := gB_cat gs hg
  exact ⟨catG_by gs, h1, by omega, hl⟩
theorem good_left {ms : List (List Rc)} {g : List Rc} (hms : ∀ x ∈ ms, groupB x = true) (hg : groupB g = true) (hl : (catG ms).length + (encG g).length ≤ 45000) {c z : Nat} (hcz : c + z ≤ (encG g).length) : GoodB ms (ms ++ [g]) (catG ms ++ left (encG g) c z) := by
  have hll : (left (encG g) c z).length = c + z := left_length _ _ _ (by omega)
  have hend : endOf (catG ms ++ left (encG g) c z) ≤ (catG ms ++ left (encG g) c z).length := by
    obtain ⟨-, h2⟩ := gB_cat_app ms (left (encG g) c z) hms
    rw [h2, List.length_append]
    by_cases hc : c < (encG g).length
    · rw [(gsOf_none (gB_left hg c z hc)).2]; omega
    · have hc' : c = (encG g).length := by omega
      have hz : z = 0 := by omega
      subst hc' hz
      rw [left_all, (endOf_enc hg).2]
      omega
  refine ⟨(catG_by ms).append ?_, ?_, hend, by rw [List.length_append, hll]; omega⟩
  · unfold left
    exact ((encG_by g).take c).append (fun x hx => by rw [List.eq_of_mem_replicate hx]; decide)
  · rcases left_groups hms hg c z hcz with ⟨h1, -⟩ | ⟨h1, -⟩
    · exact .inl h1
    · exact .inr h1
/-- What a call came to, of a play. -/
theorem play_out {ms ns : List (List Rc)} {st : Nat} {oa : Int} {P : List Int → Prop} {r : Int × DS} (hns : ∀ x ∈ ns, groupB x = true) (hl : (catG ns).length ≤ 45000) (hP : ∀ b, P b → GoodB ms ns b)
    (h : CallOut 100000 st 0 oa (catG ms) (catG ns) P r) : (r.1 = 0 ∧ Crashes 100000 st (OneB ns) r.2) ∨ ((r.1 = 202 ∨ r.1 = 203) ∧ Crashes 100000 st (GoodB ms ns) r.2) := by
  rcases h with ⟨h1, i, fs, h2, h3⟩ | ⟨h1, -, i, fs, k, kp, si, b', h3, h4, h5, h6⟩
  · refine .inl ⟨h1, ?_⟩
    rw [h2]
    exact (kept_crash h3).imp (fun b hb => by rw [hb]; exact one_cat hns hl)
  · exact .inr ⟨h1, h6.imp hP⟩
/-- What is held while the new row is laid. -/
def NowS (w1 : World) (p lb : Nat) (G : DG) (d : DS) (ng : Int) (Am : Option Addr) (ms : List (List Rc)) (cm : Nat) (vg : Value) (g : List Rc) (sb : Nat) (ob : Obj) (X : World) : Prop :=
  Ls w1.heap.size p lb w1 G d lgN ng false X ∧ RdF G X (.slice Am ms.length ms.length) ms ∧ RdF G X (.slice Am ms.length cm) ms ∧ RdR X vg g ∧ Far G vg ∧ X.heap[sb]? = some ob
theorem NowS.below {w1 : World} {Am : Option Addr} {ms : List (List Rc)} {cm : Nat} {vg : Value} {g : List Rc} {sb : Nat} {ob : Obj} {X Y : World} (h : NowS w1 p lb G d ng Am ms cm vg g sb ob X) (hb : Below X.heap.size X Y) : NowS w1 p lb G d ng Am ms cm vg g sb ob Y :=
  ⟨h.1.below hb, h.2.1.tr (Tr.of_below hb G), h.2.2.1.tr (Tr.of_below hb G), h.2.2.2.1.below hb, h.2.2.2.2.1, (hb.block sb (Array.getElem?_eq_some_iff.1 h.2.2.2.2.2).1).trans h.2.2.2.2.2⟩
theorem nows_below {w1 : World} {Am : Option Addr} {ms : List (List Rc)} {cm : Nat} {vg v2 : Value} {g : List Rc} {sb : Nat} {ob : Obj} {a : Addr} {X Y : World} (h : X.cell? a = some v2 ∧ NowS w1 p lb G d ng Am ms cm vg g sb ob X) (hb : Below X.heap.size X Y) :
    Y.cell? a = some v2 ∧ NowS w1 p lb G d ng Am ms cm vg g sb ob Y := ⟨pw_cell_below hb h.1, h.2.below hb⟩
theorem nows_alloc {w1 : World} {Am : Option Addr} {ms : List (List Rc)} {cm : Nat} {vg v2 : Value} {g : List Rc} {sb : Nat} {ob : Obj} {a : Addr} {X : World} (h : X.cell? a = some v2 ∧ NowS w1 p lb G d ng Am ms cm vg g sb ob X) (o : Obj) :
    (X.alloc o).cell? a = some v2 ∧ NowS w1 p lb G d ng Am ms cm vg g sb ob (X.alloc o) := nows_below h ((Below.refl X.heap.size X).alloc (Nat.le_refl _) o)
set_option maxRecDepth 100000 in
set_option maxHeartbeats 16000000 in
theorem walPlays_walk (v : Value) (ls : List Stp) (w : World) (hv : RdP w v ls) (hok : ∀ s ∈ ls, Stp.Ok s) :
    Calls Try.prog 9 #[v] w fun e w' => e = .returned (.bool true) ∧ Below w.heap.size w w' := by
  have K0 := Lib.hid (law22_known w)
  have HV := Lib.hid hv
  have HOKS := Lib.hid hok
  obtain ⟨A, c, rfl, -, -⟩ := hv
  clear hok
  by_cases h40 : 40 < ls.length
  · have h40' : (40 : Int) < (ls.length : Int) := by omega
    go_enter Try.func9, Try.ntmps9
    go_wp2_with fail
    refine K0.out.mono ?_
    rintro e w1 ⟨rfl, hb1⟩
    have HB1 := Lib.hid hb1
    clear hb1 K0
    go_wp2_with fail
    go_ret
    exact ⟨rfl, HB1.out⟩
  have h40' : ¬ (40 : Int) < (ls.length : Int) := by omega
  go_enter Try.func9, Try.ntmps9
  go_wp2_with fail
  refine K0.out.mono ?_
  rintro e w1 ⟨rfl, hb1⟩
  have HB1 := Lib.hid hb1
  have HV1 := Lib.hid (HV.out.below hb1)
  have K1 := Lib.hid (k_new w1 100000)
  clear hb1 K0 HV
  go_wp2_with fail
  refine K1.out.mono ?_
  rintro e w2 ⟨p, G0, rfl, hp, hk⟩
  obtain ⟨f1, f2⟩ := newD_opens 100000
  have KO := wal_openF hk (by show (0 : Int) + 30 < 1000000000; omega) (nm := lgN) (by decide) (by decide) (by show -9223372036854775808 ≤ (100000 : Int) ∧ (100000 : Int) < 9223372036854775808; omega)
  rw [f2, f1] at KO
  have HKO := Lib.hid KO
  clear hk K1 hp f1 f2 KO
  go_wp2_with fail
  refine HKO.out.mono ?_
  rintro e w3 (⟨-, v2, lb0, G2, rfl, -, hls, hag, -⟩ | ⟨hno, -⟩)
  case inr => exact absurd rfl hno
  rw [show gsOf ([] : List Int) = [] from congrArg (List.map _) gB_nil] at hag hls
  obtain ⟨A2, c2, rfl⟩ := hag.sl
  have HL0 : Hid (Ls w1.heap.size p lb0 w1 G2 (wdisk 100000 3 [] []) lgN 0 false w3) := Lib.hid hls
  clear hls hag HKO
  go_wp2_with fail
  go_loopw [4, 7, 8, 9] (fun u4 u7 u8 u9 wr => ∃ (k lb : Nat) (G : DG) (d : DS) (st : Nat) (ms : List (List Rc)) (S : Nat), u9 = .int .i64 (k : Int) ∧ k ≤ ls.length ∧ u4 = pv lb ∧ u8 = .int .i64 (S : Int) ∧
    IsLog 100000 st (catG ms) d ∧ st ≤ 3 + 20 * k ∧ (catG ms).length ≤ S ∧ S ≤ 20000 ∧ Ls w1.heap.size p lb w1 G d lgN (ms.length : Int) false wr ∧ RdF G wr u7 ms ∧ CapV u7 ∧ (∀ g ∈ ms, groupB g = true) ∧ ms.length ≤ k) (fun _ _ _ i _ => ls.length - (intOf i).toNat)
  case atStart => exact ⟨0, lb0, G2, _, 3, [], 0, rfl, Nat.zero_le _, rfl, rfl, wd_isLog _ _ _ _, by omega, by simp [catG], by omega, HL0.out, RdF.nil _ _, CapV.nil, fun g hg => by simp at hg, Nat.le_refl _⟩
  case round =>
    obtain ⟨k, lb, G, d, st, ms, S, rfl, hk, rfl, rfl, hil, hst, hcl, hS, hl, hm, hcap, hga, hml⟩ := hrel
    have HL := Lib.hid hl
    have HIL := Lib.hid hil
    have HGA := Lib.hid hga
    have HML := Lib.hid (show ms.length ≤ 40 by omega)
    have HMK := Lib.hid hml
    have HST : Hid (st ≤ 3 + 20 * k ∧ k ≤ 40) := Lib.hid ⟨hst, by omega⟩
    have HCL := Lib.hid hcl
    have HM : Hid (RdF G wr u7 ms) := Lib.hid hm
    obtain ⟨Am, cm, rfl⟩ := hm.sl
    have HSBN : Hid (¬ G.has wr.heap.size ∧ wr.heap.size ≠ lb) := Lib.hid ⟨fun hh => by have := (hl.dk.at_.has_lt hh).2; omega, by have := (Array.getElem?_eq_some_iff.1 hl.lg).1; omega⟩
    have HCM := Lib.hid (hcap _ _ _ rfl)
    clear hl hil hga hml hst hcl hm hcap HL0
    by_cases hlt : k < ls.length
    · have hlt' : (k : Int) < (ls.length : Int) := by omega
      obtain ⟨a, c', hv, hix, hat⟩ := HV1.out.at_ hlt
      injection hv with hv1 _ hv2
      subst hv1 hv2
      obtain ⟨s, hs⟩ : ∃ s, ls[k] = s := ⟨_, rfl⟩
      have hoks := HOKS.out s (by rw [← hs]; exact List.getElem_mem hlt)
      rw [hs] at hat
      obtain ⟨what, g, pw, cs⟩ := s
      obtain ⟨hfit, hbc, hwr, hpr⟩ := hoks
      obtain ⟨vg, vc, q0, q1, q2, q3, hvg, hvc⟩ := hat
      obtain ⟨Ag, cg, hvge, -⟩ := id hvg
      obtain ⟨Ac, cc, hvce, -⟩ := id hvc
      dsimp only at q0 q2 hfit hbc hwr hpr hvge hvce hvg hvc
      subst hvge hvce
      rw [add_next _ _ 1 (by omega)] at q1
      rw [add_next _ _ 2 (by omega)] at q2
      rw [add_next _ _ 3 (by omega)] at q3
      obtain ⟨ad, had⟩ : ∃ ad, a.add (k * 4) = ad := ⟨_, rfl⟩
      rw [had] at q0 q1 q2 q3 hix
      have HVG := Lib.hid hvg
      have HVC := Lib.hid hvc
      have HFI := Lib.hid hfit
      have HBC := Lib.hid hbc
      have r0 := pw_cell_below HL.out.dk.bel q0
      have r1 := pw_cell_below HL.out.dk.bel q1
      have r2 := pw_cell_below HL.out.dk.bel q2
      have r3 := pw_cell_below HL.out.dk.bel q3
      clear hs q0 q1 q2 q3 hvg hvc hfit hbc had
      have hb1 := (Below.refl wr.heap.size wr).alloc (Nat.le_refl _) (.cells #[.int .i64 what, .slice Ag g.length cg, .int .i64 pw, .slice Ac cs.length cc] 57)
      have KE := Lib.hid (wal_encode (.slice Ag g.length cg) g _ (HVG.out.below (HL.out.below hb1).dk.bel))
      have HB01 := Lib.hid hb1
      have hem := enc_max' g
      obtain ⟨S2, hS2⟩ : ∃ S2 : Nat, S + (encG g).length = S2 := ⟨_, rfl⟩
      have hSi : (S : Int) + ((encG g).length : Int) = (S2 : Int) := by omega
      have HS2 := Lib.hid hS2
      clear hb1 hS2
      go_wp2_with fail
      refine KE.out.mono ?_
      rintro e w2 ⟨v2, rfl, ho2, hb2⟩
      obtain ⟨A2, c2, rfl, -, -⟩ := ho2.rd
      have hb12 := HB01.out.trans (hb2.mono HB01.out.size)
      have HL2 := Lib.hid (HL.out.below hb12)
      have HM2 := Lib.hid (HM.out.below hb12)
      have HSB2 : Hid (w2.heap[wr.heap.size]? = some (.cells #[.int .i64 what, .slice Ag g.length cg, .int .i64 pw, .slice Ac cs.length cc] 57)) := Lib.hid ((hb2.block _ (by simp)).trans (alloc_new wr _))
      have KF := Lib.hid (law22_few (.slice Ag g.length cg) g w2 (HVG.out.below HL2.out.dk.bel) HFI.out)
      clear ho2 hb2 hb12 KE HL HM HB01 r0 r1 r2 r3
      have t1 := cells_blk HSB2.out 1 _ rfl
      have t3 := cells_blk HSB2.out 3 _ rfl
      go_wp2_with fail
      refine KF.out.mono ?_
      rintro e w3 ⟨rfl, hb3⟩
      have HL3 := Lib.hid (HL2.out.below hb3)
      have HM3 := Lib.hid (HM2.out.below hb3)
      have HSB3 : Hid (w3.heap[wr.heap.size]? = some (.cells #[.int .i64 what, .slice Ag g.length cg, .int .i64 pw, .slice Ac cs.length cc] 57)) := Lib.hid ((hb3.block _ (Array.getElem?_eq_some_iff.1 HSB2.out).1).trans HSB2.out)
      clear hb3 KF HL2 HM2 hSi t1 t3
      have t0 := cells_blk HSB3.out 0 _ rfl
      have t1 := cells_blk HSB3.out 1 _ rfl
      have t2 := cells_blk HSB3.out 2 _ rfl
      have t3 := cells_blk HSB3.out 3 _ rfl
      have HBL3 := Lib.hid HL3.out.dk.bel
      cases hfe : fewB g with
      | false =>
        go_wp2_with fail
        go_ret
        exact ⟨rfl, HB1.out.trans (HBL3.out.mono HB1.out.size)⟩
      | true =>
        by_cases h30 : 30 < cs.length
        · have h30' : (30 : Int) < (cs.length : Int) := by omega
          go_wp2_with fail
          go_ret
          exact ⟨rfl, HB1.out.trans (HBL3.out.mono HB1.out.size)⟩
        have h30' : ¬ (30 : Int) < (cs.length : Int) := by omega
        by_cases h20k : 20000 < S2
        · have h20' : (20000 : Int) < (S2 : Int) := by omega
          go_wp2_with fail
          go_ret
          exact ⟨rfl, HB1.out.trans (HBL3.out.mono HB1.out.size)⟩
        have h20' : ¬ (20000 : Int) < (S2 : Int) := by omega
        have HFARG : Hid (∀ G' d' W', At w1.heap.size G' d' W' → Far G' (.slice Ag g.length cg)) := Lib.hid (fun G' d' W' h => Far.rdr h HVG.out)
        have HSUM : Hid ((catG ms).length + (encG g).length ≤ S2) := Lib.hid (by have := HCL.out; have := HS2.out; omega)
        have HMSL : Hid ((catG ms).length ≤ S2 ∧ ms.length ≤ k + 1) := Lib.hid (by have := HSUM.out; have := HMK.out; omega)
        clear hfe
        by_cases h5 : (5 : Int) ≤ what
        · have h5' : ¬ what < 5 := by omega
          obtain ⟨tp, htp⟩ : ∃ tp, pw.tmod 6 = tp := ⟨_, rfl⟩
          have htb : -6 ≤ tp ∧ tp ≤ 6 := by
            rw [← htp]
            rcases Int.le_total 0 pw with hw0 | hw0
            · rw [Int.tmod_eq_emod_of_nonneg hw0]
              omega
            · have h7 := Int.neg_tmod (-pw) 6
              rw [Int.neg_neg, Int.tmod_eq_emod_of_nonneg (a := -pw) (by omega)] at h7
              omega
          obtain ⟨i7, fs7, hd7, hf7⟩ := HIL.out
          subst hd7
          have KP := k_power HL3.out.dk (tp + 1) (by omega)
          obtain ⟨o, ho⟩ := ld_power (q := 100000) (st := st) (fa := 0) (i := i7) (fs := fs7) (kp := [(lgN, i7)]) (si := []) (tp + 1)
          rw [ho] at KP
          have HKP := Lib.hid KP
          have HF7 := Lib.hid hf7
          clear KP ho hf7
          go_wp2_with fail
          refine HKP.out.mono ?_
          rintro e w4 ⟨⟨u4', rfl⟩, hd4, ht4⟩
          have HL4 := Lib.hid (HL3.out.tr hd4 ht4)
          have HM4 := Lib.hid (HM3.out.tr ht4)
          have HSB4 : Hid (w4.heap[wr.heap.size]? = some (.cells #[.int .i64 what, .slice Ag g.length cg, .int .i64 pw, .slice Ac cs.length cc] 57)) := Lib.hid ((ht4.block _ (Array.getElem?_eq_some_iff.1 HSB3.out).1 HSBN.out.1).trans HSB3.out)
          clear hd4 ht4 HKP HL3 HM3 t0 t1 t2 t3 htp htb
          have t0 := cells_blk HSB4.out 0 _ rfl
          have t1 := cells_blk HSB4.out 1 _ rfl
          have t2 := cells_blk HSB4.out 2 _ rfl
          have t3 := cells_blk HSB4.out 3 _ rfl
          by_cases htm : what % 5 = 4
          · have KC := wal_clear HL4.out (by show ((st : Nat) : Int) + 30 < 1000000000; have := HST.out; omega) (by decide)
            obtain ⟨st9, hst9, hco⟩ := clear_out (q := 100000) (st := st) (fa := 0) (oa := o) HF7.out
            obtain ⟨r, hr⟩ : ∃ r, freshW lgN (ld 100000 st 0 o i7 fs7 [(lgN, i7)] []) = r := ⟨_, rfl⟩
            rw [hr] at hco KC
            obtain ⟨er, dr⟩ := r
            obtain ⟨ns, hns⟩ : ∃ ns, ([] : List (List Rc)) = ns := ⟨_, rfl⟩
            have hn0 : ∀ x ∈ ns, groupB x = true := fun x hx => by rw [← hns] at hx; simp at hx
            have hnc : catG ns = [] := by rw [← hns]; rfl
            have hP : ∀ b, (b = catG ms ∨ b = []) → GoodB ms ns b := fun b hb => by
              rcases hb with rfl | rfl
              · obtain ⟨a1, a2, a3, a4⟩ := one_cat HGA.out (by have := HCL.out; omega)
                exact ⟨a1, .inl a2, a3, a4⟩
              · obtain ⟨a1, a2, a3, a4⟩ := one_cat hn0 (by rw [hnc]; simp)
                rw [hnc] at a1 a2 a3 a4
                exact ⟨a1, .inr a2, a3, a4⟩
            rw [← hnc] at hco
            have HPO := Lib.hid (play_out hn0 (by rw [hnc]; simp) (by rw [hnc]; exact hP) hco)
            have HNSL : Hid ((catG ns).length ≤ S2 ∧ ns.length ≤ k + 1) := Lib.hid (by rw [hnc, ← hns]; simp)
            have HNF : Hid (∀ G' W', RdF G' W' (.slice none 0 0) ns) := Lib.hid (fun G' W' => by rw [← hns]; exact RdF.nil _ _)
            have HST9 : Hid (st9 ≤ st + 3) := Lib.hid hst9
            have HKC := Lib.hid KC
            clear KC hr hco hns hn0 hnc hP hst9
            go_wp2_with fail
            refine HKC.out.mono ?_
            rintro e w5 ⟨rfl, G5, hls, hlt5⟩
            have HL5 := Lib.hid hls
            have HM5 := Lib.hid (HM4.out.lt HL4.out.lg hlt5)
            have HN5 : Hid (RdF G5 w5 (.slice none 0 0) ns) := Lib.hid (HNF.out _ _)
            have HSB5 : Hid (w5.heap[wr.heap.size]? = some (.cells #[.int .i64 what, .slice Ag g.length cg, .int .i64 pw, .slice Ac cs.length cc] 57)) := Lib.hid ((hlt5.block _ (Array.getElem?_eq_some_iff.1 HSB4.out).1 HSBN.out.1 HSBN.out.2).trans HSB4.out)
            clear hls hlt5 HKC HL4 HM4 t0 t1 t2 t3
            rcases HPO.out with ⟨he, hcr⟩ | ⟨he, hcr⟩
            · (try dsimp only at he hcr)
              subst he
              have HCR := Lib.hid hcr
              clear hcr HPO
              have t0 := cells_blk HSB5.out 0 _ rfl
              have t3 := cells_blk HSB5.out 3 _ rfl
              have KX := Lib.hid (k_crash HL5.out.dk (.slice Ac cs.length cc) cs (RdB.below HVC.out HL5.out.dk.bel) HBC.out (Far.old HL5.out.dk.at_ HVC.out))
              go_wp2_with fail
              refine KX.out.mono ?_
              rintro e wx ⟨⟨ux, rfl⟩, Gx, hdx, htx⟩
              obtain ⟨bx, hil, hgood⟩ := HCR.out cs
              have HWx := Lib.hid (HN5.out.tr htx)
              have HNx := Lib.hid (HN5.out.tr htx)
              obtain ⟨hby, hgs, hen, hlx⟩ := hgood
              obtain ⟨d20, st20, hst20, h20, hil20⟩ := hil.loose.opens (by omega) (by omega) hen
              obtain ⟨e1, e2, e3⟩ := take_end hby
              rw [e1] at hil20
              have KO := wal_openF hdx (by rw [hil.loose.steps.1]; have := HST9.out; have := HST.out; omega) (nm := lgN) (by decide) (by decide) (by rw [hil.loose.steps.2]; omega)
              rw [h20, hil.loose.read] at KO
              dsimp only at KO
              obtain ⟨g9, hg9⟩ : ∃ g9, gsOf bx = g9 := ⟨_, rfl⟩
              rw [hg9] at KO hgs e2 hil20
              have HG9 := Lib.hid hgs
              have HGA9 := Lib.hid e2
              have HIL20 := Lib.hid hil20
              have HST20 : Hid (st20 ≤ st9 + 5) := Lib.hid hst20
              have HKO := Lib.hid KO
              have HG9L : Hid ((catG g9).length ≤ S2 ∧ g9.length ≤ k + 1) := Lib.hid (by rw [HG9.out]; exact HNSL.out)
              clear KX hdx htx hil hby hgs hen hlx h20 hil20 hst20 e1 e2 e3 KO hg9
              clear t0 t3
              go_wp2_with fail
              refine HKO.out.mono ?_
              rintro e w20 (⟨-, v20, lb20, G20, rfl, -, hls, hag, ht⟩ | ⟨hno, -⟩)
              case inr => exact absurd rfl hno
              have HL20 : Hid (Ls w1.heap.size p lb20 w1 G20 d20 lgN (g9.length : Int) false w20) := Lib.hid hls
              have HW20 := Lib.hid (HWx.out.tr ht)
              have HN20 := Lib.hid (HNx.out.tr ht)
              have HX20 := Lib.hid (hag.rdF (fun g hg => by have := groupB_len (HGA9.out g hg); omega))
              have hcv20 := hag.cap
              obtain ⟨A20, c20, rfl⟩ := hag.sl
              have HCV20 := Lib.hid hcv20
              have KL := Lib.hid (wal_len lb20 lgN (g9.length : Int) false w20 hls.lg)
              have KG := law22_groups _ _ g9 ns w20 HX20.out.rdG HW20.out.rdG (by have := HG9L.out; omega)
              have KG2 := Lib.hid (fun W (hb : Below w20.heap.size w20 W) => law22_groups _ _ g9 ns W (HX20.out.rdG.below hb) (HN20.out.rdG.below hb) (by have := HG9L.out; omega))
              clear hls hag ht HKO hcv20
              rw [decide_eq_true HG9.out] at KG
              have HKG := Lib.hid KG
              clear KG KG2
              go_wp2_with fail
              refine KL.out.mono ?_
              rintro e w21 ⟨rfl, rfl⟩
              clear KL
              go_wp2_with fail
              refine HKG.out.mono ?_
              rintro e w22 ⟨rfl, hb22⟩
              have HL22 := Lib.hid (HL20.out.below hb22)
              have HX22 := Lib.hid (HX20.out.below hb22)
              clear hb22 HKG HL20 HX20
              go_wp2_with fail

              go_roundw
              case rel => exact ⟨k + 1, lb20, G20, d20, st20, g9, S2, by go_num, by omega, rfl, rfl, HIL20.out, by have := HST20.out; have := HST9.out; have := HST.out; omega, HG9L.out.1, by omega, HL22.out, HX22.out, HCV20.out, HGA9.out, by have := HG9L.out; omega⟩
              case measure => simp [intOf]; omega
            · (try dsimp only at he hcr)
              have HCR := Lib.hid hcr
              clear hcr HPO
              rcases he with he | he
              · subst he
                have t0 := cells_blk HSB5.out 0 _ rfl
                have t3 := cells_blk HSB5.out 3 _ rfl
                have KX := Lib.hid (k_crash HL5.out.dk (.slice Ac cs.length cc) cs (RdB.below HVC.out HL5.out.dk.bel) HBC.out (Far.old HL5.out.dk.at_ HVC.out))
                go_wp2_with fail
                refine KX.out.mono ?_
                rintro e wx ⟨⟨ux, rfl⟩, Gx, hdx, htx⟩
                obtain ⟨bx, hil, hgood⟩ := HCR.out cs
                have HWx := Lib.hid (HM5.out.tr htx)
                have HNx := Lib.hid (HN5.out.tr htx)
                obtain ⟨hby, hgs, hen, hlx⟩ := hgood
                obtain ⟨d20, st20, hst20, h20, hil20⟩ := hil.loose.opens (by omega) (by omega) hen
                obtain ⟨e1, e2, e3⟩ := take_end hby
                rw [e1] at hil20
                have KO := wal_openF hdx (by rw [hil.loose.steps.1]; have := HST9.out; have := HST.out; omega) (nm := lgN) (by decide) (by decide) (by rw [hil.loose.steps.2]; omega)
                rw [h20, hil.loose.read] at KO
                dsimp only at KO
                obtain ⟨g9, hg9⟩ : ∃ g9, gsOf bx = g9 := ⟨_, rfl⟩
                rw [hg9] at KO hgs e2 hil20
                have HG9 := Lib.hid hgs
                have HGA9 := Lib.hid e2
                have HIL20 := Lib.hid hil20
                have HST20 : Hid (st20 ≤ st9 + 5) := Lib.hid hst20
                have HKO := Lib.hid KO
                have HG9L : Hid ((catG g9).length ≤ S2 ∧ g9.length ≤ k + 1) := Lib.hid (by
                  rcases HG9.out with h | h
                  · rw [h]; exact HMSL.out
                  · rw [h]; exact HNSL.out)
                clear KX hdx htx hil hby hgs hen hlx h20 hil20 hst20 e1 e2 e3 KO hg9
                clear t0 t3
                go_wp2_with fail
                refine HKO.out.mono ?_
                rintro e w20 (⟨-, v20, lb20, G20, rfl, -, hls, hag, ht⟩ | ⟨hno, -⟩)
                case inr => exact absurd rfl hno
                have HL20 : Hid (Ls w1.heap.size p lb20 w1 G20 d20 lgN (g9.length : Int) false w20) := Lib.hid hls
                have HW20 := Lib.hid (HWx.out.tr ht)
                have HN20 := Lib.hid (HNx.out.tr ht)
                have HX20 := Lib.hid (hag.rdF (fun g hg => by have := groupB_len (HGA9.out g hg); omega))
                have hcv20 := hag.cap
                obtain ⟨A20, c20, rfl⟩ := hag.sl
                have HCV20 := Lib.hid hcv20
                have KL := Lib.hid (wal_len lb20 lgN (g9.length : Int) false w20 hls.lg)
                have KG := law22_groups _ _ g9 ms w20 HX20.out.rdG HW20.out.rdG (by have := HG9L.out; omega)
                have KG2 := Lib.hid (fun W (hb : Below w20.heap.size w20 W) => law22_groups _ _ g9 ns W (HX20.out.rdG.below hb) (HN20.out.rdG.below hb) (by have := HG9L.out; omega))
                clear hls hag ht HKO hcv20
                by_cases heq : g9 = ms
                · rw [decide_eq_true heq] at KG
                  have HKG := Lib.hid KG
                  clear KG KG2 heq
                  go_wp2_with fail
                  refine KL.out.mono ?_
                  rintro e w21 ⟨rfl, rfl⟩
                  clear KL
                  go_wp2_with fail
                  refine HKG.out.mono ?_
                  rintro e w22 ⟨rfl, hb22⟩
                  have HL22 := Lib.hid (HL20.out.below hb22)
                  have HX22 := Lib.hid (HX20.out.below hb22)
                  clear hb22 HKG HL20 HX20
                  go_wp2_with fail

                  go_roundw
                  case rel => exact ⟨k + 1, lb20, G20, d20, st20, g9, S2, by go_num, by omega, rfl, rfl, HIL20.out, by have := HST20.out; have := HST9.out; have := HST.out; omega, HG9L.out.1, by omega, HL22.out, HX22.out, HCV20.out, HGA9.out, by have := HG9L.out; omega⟩
                  case measure => simp [intOf]; omega
                · rw [decide_eq_false heq] at KG
                  have HNE := Lib.hid heq
                  have HKG := Lib.hid KG
                  clear KG heq
                  go_wp2_with fail
                  refine KL.out.mono ?_
                  rintro e w21 ⟨rfl, rfl⟩
                  clear KL
                  go_wp2_with fail
                  refine HKG.out.mono ?_
                  rintro e w22 ⟨rfl, hb22⟩
                  have K2 := KG2.out w22 hb22
                  rw [decide_eq_true (HG9.out.resolve_left HNE.out)] at K2
                  have HK2 := Lib.hid K2
                  have HL22 := Lib.hid (HL20.out.below hb22)
                  have HX22 := Lib.hid (HX20.out.below hb22)
                  clear hb22 HKG HL20 HX20 KG2 K2
                  go_wp2_with fail
                  refine HK2.out.mono ?_
                  rintro e w23 ⟨rfl, hb23⟩
                  have HL23 := Lib.hid (HL22.out.below hb23)
                  have HX23 := Lib.hid (HX22.out.below hb23)
                  clear hb23 HK2 HL22 HX22
                  go_wp2_with fail

                  go_roundw
                  case rel => exact ⟨k + 1, lb20, G20, d20, st20, g9, S2, by go_num, by omega, rfl, rfl, HIL20.out, by have := HST20.out; have := HST9.out; have := HST.out; omega, HG9L.out.1, by omega, HL23.out, HX23.out, HCV20.out, HGA9.out, by have := HG9L.out; omega⟩
                  case measure => simp [intOf]; omega
              · subst he
                have t0 := cells_blk HSB5.out 0 _ rfl
                have t3 := cells_blk HSB5.out 3 _ rfl
                have KX := Lib.hid (k_crash HL5.out.dk (.slice Ac cs.length cc) cs (RdB.below HVC.out HL5.out.dk.bel) HBC.out (Far.old HL5.out.dk.at_ HVC.out))
                go_wp2_with fail
                refine KX.out.mono ?_
                rintro e wx ⟨⟨ux, rfl⟩, Gx, hdx, htx⟩
                obtain ⟨bx, hil, hgood⟩ := HCR.out cs
                have HWx := Lib.hid (HM5.out.tr htx)
                have HNx := Lib.hid (HN5.out.tr htx)
                obtain ⟨hby, hgs, hen, hlx⟩ := hgood
                obtain ⟨d20, st20, hst20, h20, hil20⟩ := hil.loose.opens (by omega) (by omega) hen
                obtain ⟨e1, e2, e3⟩ := take_end hby
                rw [e1] at hil20
                have KO := wal_openF hdx (by rw [hil.loose.steps.1]; have := HST9.out; have := HST.out; omega) (nm := lgN) (by decide) (by decide) (by rw [hil.loose.steps.2]; omega)
                rw [h20, hil.loose.read] at KO
                dsimp only at KO
                obtain ⟨g9, hg9⟩ : ∃ g9, gsOf bx = g9 := ⟨_, rfl⟩
                rw [hg9] at KO hgs e2 hil20
                have HG9 := Lib.hid hgs
                have HGA9 := Lib.hid e2
                have HIL20 := Lib.hid hil20
                have HST20 : Hid (st20 ≤ st9 + 5) := Lib.hid hst20
                have HKO := Lib.hid KO
                have HG9L : Hid ((catG g9).length ≤ S2 ∧ g9.length ≤ k + 1) := Lib.hid (by
                  rcases HG9.out with h | h
                  · rw [h]; exact HMSL.out
                  · rw [h]; exact HNSL.out)
                clear KX hdx htx hil hby hgs hen hlx h20 hil20 hst20 e1 e2 e3 KO hg9
                clear t0 t3
                go_wp2_with fail
                refine HKO.out.mono ?_
                rintro e w20 (⟨-, v20, lb20, G20, rfl, -, hls, hag, ht⟩ | ⟨hno, -⟩)
                case inr => exact absurd rfl hno
                have HL20 : Hid (Ls w1.heap.size p lb20 w1 G20 d20 lgN (g9.length : Int) false w20) := Lib.hid hls
                have HW20 := Lib.hid (HWx.out.tr ht)
                have HN20 := Lib.hid (HNx.out.tr ht)
                have HX20 := Lib.hid (hag.rdF (fun g hg => by have := groupB_len (HGA9.out g hg); omega))
                have hcv20 := hag.cap
                obtain ⟨A20, c20, rfl⟩ := hag.sl
                have HCV20 := Lib.hid hcv20
                have KL := Lib.hid (wal_len lb20 lgN (g9.length : Int) false w20 hls.lg)
                have KG := law22_groups _ _ g9 ms w20 HX20.out.rdG HW20.out.rdG (by have := HG9L.out; omega)
                have KG2 := Lib.hid (fun W (hb : Below w20.heap.size w20 W) => law22_groups _ _ g9 ns W (HX20.out.rdG.below hb) (HN20.out.rdG.below hb) (by have := HG9L.out; omega))
                clear hls hag ht HKO hcv20
                by_cases heq : g9 = ms
                · rw [decide_eq_true heq] at KG
                  have HKG := Lib.hid KG
                  clear KG KG2 heq
                  go_wp2_with fail
                  refine KL.out.mono ?_
                  rintro e w21 ⟨rfl, rfl⟩
                  clear KL
                  go_wp2_with fail
                  refine HKG.out.mono ?_
                  rintro e w22 ⟨rfl, hb22⟩
                  have HL22 := Lib.hid (HL20.out.below hb22)
                  have HX22 := Lib.hid (HX20.out.below hb22)
                  clear hb22 HKG HL20 HX20
                  go_wp2_with fail

                  go_roundw
                  case rel => exact ⟨k + 1, lb20, G20, d20, st20, g9, S2, by go_num, by omega, rfl, rfl, HIL20.out, by have := HST20.out; have := HST9.out; have := HST.out; omega, HG9L.out.1, by omega, HL22.out, HX22.out, HCV20.out, HGA9.out, by have := HG9L.out; omega⟩
                  case measure => simp [intOf]; omega
                · rw [decide_eq_false heq] at KG
                  have HNE := Lib.hid heq
                  have HKG := Lib.hid KG
                  clear KG heq
                  go_wp2_with fail
                  refine KL.out.mono ?_
                  rintro e w21 ⟨rfl, rfl⟩
                  clear KL
                  go_wp2_with fail
                  refine HKG.out.mono ?_
                  rintro e w22 ⟨rfl, hb22⟩
                  have K2 := KG2.out w22 hb22
                  rw [decide_eq_true (HG9.out.resolve_left HNE.out)] at K2
                  have HK2 := Lib.hid K2
                  have HL22 := Lib.hid (HL20.out.below hb22)
                  have HX22 := Lib.hid (HX20.out.below hb22)
                  clear hb22 HKG HL20 HX20 KG2 K2
                  go_wp2_with fail
                  refine HK2.out.mono ?_
                  rintro e w23 ⟨rfl, hb23⟩
                  have HL23 := Lib.hid (HL22.out.below hb23)
                  have HX23 := Lib.hid (HX22.out.below hb23)
                  clear hb23 HK2 HL22 HX22
                  go_wp2_with fail

                  go_roundw
                  case rel => exact ⟨k + 1, lb20, G20, d20, st20, g9, S2, by go_num, by omega, rfl, rfl, HIL20.out, by have := HST20.out; have := HST9.out; have := HST.out; omega, HG9L.out.1, by omega, HL23.out, HX23.out, HCV20.out, HGA9.out, by have := HG9L.out; omega⟩
                  case measure => simp [intOf]; omega
          · have htf : (what % 5 == 4) = false := by rw [beq_eq_false_iff_ne]; exact htm
            have RG := Lib.hid (ref21_group (.slice Ag g.length cg) g w4 (HVG.out.below HL4.out.dk.bel))
            obtain ⟨gb, hgb⟩ : ∃ gb, groupB g = gb := ⟨_, rfl⟩
            rw [hgb] at RG
            go_wp2_with fail
            refine RG.out.mono ?_
            rintro e w5 ⟨rfl, hb5⟩
            have HL5 := Lib.hid (HL4.out.below hb5)
            have HM5 := Lib.hid (HM4.out.below hb5)
            have HSB5 : Hid (w5.heap[wr.heap.size]? = some (.cells #[.int .i64 what, .slice Ag g.length cg, .int .i64 pw, .slice Ac cs.length cc] 57)) := Lib.hid ((hb5.block _ (Array.getElem?_eq_some_iff.1 HSB4.out).1).trans HSB4.out)
            clear hb5 RG t0 t1 t2 t3
            cases gb with
            | true =>
              obtain ⟨nn, hnn⟩ : ∃ nn, ms ++ [g] = nn := ⟨_, rfl⟩
              have hnl : nn.length = ms.length + 1 := by rw [← hnn, List.length_append]; rfl
              have hnc : catG ms ++ encG g = catG nn := by rw [← hnn]; exact (catG_snoc ms g).symm
              have HNA : Hid (∀ x ∈ nn, groupB x = true) := Lib.hid (fun x hx => by
                rw [← hnn] at hx
                rcases List.mem_append.1 hx with h | h
                · exact HGA.out x h
                · rw [List.mem_singleton] at h; rw [h]; exact hgb)
              have HNSL : Hid ((catG nn).length ≤ S2 ∧ nn.length ≤ k + 1) := Lib.hid (by rw [← hnc, List.length_append, hnl]; have := HSUM.out; have := HMK.out; omega)
              have HNL := Lib.hid hnl
              have HNC := Lib.hid hnc
              have HNN := Lib.hid hnn
              have HGB := Lib.hid hgb
              clear hnl hnc hnn
              have HNW : Hid (NowS w1 p lb G _ (ms.length : Int) Am ms cm (.slice Ag g.length cg) g wr.heap.size (.cells #[.int .i64 what, .slice Ag g.length cg, .int .i64 pw, .slice Ac cs.length cc] 57) w5) := Lib.hid ⟨HL5.out, RdF.cap HM5.out, HM5.out, HVG.out.below HL5.out.dk.bel, Far.rdr HL5.out.dk.at_ HVG.out, HSB5.out⟩
              have hsf := slice_full Am ms.length cm HCM.out
              go_wp2_with fail
              refine wp_region_noPanic ?_
              refine wp_region_held_drew (S := (fun X => X.cell? ⟨wr.heap.size, 1, none⟩ = some (.slice Ag g.length cg) ∧ NowS w1 p lb G (ld 100000 st 0 o i7 fs7 [(lgN, i7)] []) (ms.length : Int) Am ms cm (.slice Ag g.length cg) g wr.heap.size (.cells #[.int .i64 what, .slice Ag g.length cg, .int .i64 pw, .slice Ac cs.length cc] 57) X)) (by kernel_rfl) ⟨cells_blk HSB5.out 1 _ rfl, HNW.out.below (Below.refl _ _).drew⟩ (fun hHeld => ?_)
              refine held_sharp hHeld (fun _ h => h) (fun X hHeld => ?_)
              have hX := hHeld
              refine held_take (i := 0) (v := ?_) rfl (by kernel_rfl) (by kernel_rfl) (by kernel_rfl) (fun _ _ _ h => h) (by rfl) hHeld ?y23_0 ?_
              case y23_0 => (intro w hSw; (try dsimp only at hSw); go_simp; try with_reducible rfl)
              try simp only [Act.put, List.setIfInBounds_toArray, List.set_cons_zero, List.set_cons_succ]
              refine held_take (i := 1) (v := ?_) rfl (by kernel_rfl) (by kernel_rfl) (by kernel_rfl) (fun _ _ _ h => h) (by rfl) hHeld ?y23_1 ?_
              case y23_1 => (intro w hSw; (try dsimp only at hSw); go_simp; try with_reducible rfl)
              try simp only [Act.put, List.setIfInBounds_toArray, List.set_cons_zero, List.set_cons_succ]
              refine held_take (i := 2) (v := ?_) rfl (by kernel_rfl) (by kernel_rfl) (by kernel_rfl) (fun _ _ _ h => h) (by rfl) hHeld ?y23_2 ?_
              case y23_2 => (intro w hSw; (try dsimp only at hSw); go_simp; try with_reducible rfl)
              try simp only [Act.put, List.setIfInBounds_toArray, List.set_cons_zero, List.set_cons_succ]
              refine held_take (i := 3) (v := ?_) rfl (by kernel_rfl) (by kernel_rfl) (by kernel_rfl) (fun _ _ _ h => h) (by rfl) hHeld ?y23_3 ?_
              case y23_3 => (intro w hSw; (try dsimp only at hSw); go_simp; try with_reducible rfl)
              try simp only [Act.put, List.setIfInBounds_toArray, List.set_cons_zero, List.set_cons_succ]
              refine held_take (i := 4) (v := ?_) rfl (by kernel_rfl) (by kernel_rfl) (by kernel_rfl) (fun _ _ _ h => h) (by rfl) hHeld ?y23_4 ?_
              case y23_4 => (intro w hSw; (try dsimp only at hSw); go_simp; try with_reducible rfl)
              try simp only [Act.put, List.setIfInBounds_toArray, List.set_cons_zero, List.set_cons_succ]
              refine held_take (i := 5) (v := ?_) rfl (by kernel_rfl) (by kernel_rfl) (by kernel_rfl) (fun _ _ _ h => h) (by rfl) hHeld ?y23_5 ?_
              case y23_5 => (intro w hSw; (try dsimp only at hSw); go_simp; try with_reducible rfl)
              try simp only [Act.put, List.setIfInBounds_toArray, List.set_cons_zero, List.set_cons_succ]
              refine held_take (i := 6) (v := ?_) rfl (by kernel_rfl) (by kernel_rfl) (by kernel_rfl) (fun _ _ _ h => h) (by rfl) hHeld ?y23_6 ?_
              case y23_6 => (intro w hSw; (try dsimp only at hSw); go_simp; try with_reducible rfl)
              try simp only [Act.put, List.setIfInBounds_toArray, List.set_cons_zero, List.set_cons_succ]
              refine held_take (i := 7) (v := ?_) rfl (by kernel_rfl) (by kernel_rfl) (by kernel_rfl) (fun _ _ _ h => h) (by rfl) hHeld ?y23_7 ?_
              case y23_7 => (intro w hSw; (try dsimp only at hSw); go_simp; try with_reducible rfl)
              try simp only [Act.put, List.setIfInBounds_toArray, List.set_cons_zero, List.set_cons_succ]
              refine held_one (i := 8) (by kernel_rfl) rfl (fun K hK => ?_)
              (have hS8 := nows_alloc hHeld (.cells #[.slice Ag g.length cg] 32); go_simp)
              refine hK.out _ _ ?_ (fun hHeld => ?_)
              · exact hS8
              clear hK K
              try simp only [Act.put, List.setIfInBounds_toArray, List.set_cons_zero, List.set_cons_succ]
              refine held_one (i := 9) (by kernel_rfl) rfl (fun K hK => ?_)
              (obtain ⟨va, wa, hrun, hrfa, hba, hcva⟩ := full_append_cap (y := .slice Ag g.length cg) (g := g) hX.2.2.1 hX.2.1.dk.at_ hX.2.2.2.2.1 hX.2.2.2.2.2.1 (by have := HML.out; omega) 27; have hS9 := nows_below hX hba; refine step_append_run rfl _ _ 27 rfl _ _ va wa rfl rfl hrun ?_)
              refine hK.out _ _ ?_ (fun hHeld => ?_)
              · exact hS9
              clear hK K
              try simp only [Act.put, List.setIfInBounds_toArray, List.set_cons_zero, List.set_cons_succ]
              refine held_take (i := 10) (v := ?_) rfl (by kernel_rfl) (by kernel_rfl) (by kernel_rfl) (fun _ _ _ h => h) (by rfl) hHeld ?y23_10 ?_
              case y23_10 => (intro w hSw; (try dsimp only at hSw); go_simp; try with_reducible rfl)
              try simp only [Act.put, List.setIfInBounds_toArray, List.set_cons_zero, List.set_cons_succ]
              refine wpAnyH_done (by kernel_rfl) ?_ _
              refine NoPanic.normal ?_
              have HRX := Lib.hid hrfa
              have HX9 := Lib.hid hHeld.2
              have HCVA := Lib.hid hcva
              clear hcva hHeld hrfa hba hrun hX HNW
              rw [HNN.out] at HRX
              obtain ⟨Av, cv, hva, hcv⟩ := HCVA.out
              have hnl2 := HNL.out
              rw [← hnl2] at hva hcv
              subst hva
              have HCAP : Hid (CapV (.slice Av nn.length cv)) := Lib.hid (fun A' n' c' he => by injection he with _ e2 e3; omega)
              have HL6 := Lib.hid HX9.out.1
              have HM6 := Lib.hid HX9.out.2.2.1
              have HSB6 : Hid (wa.heap[wr.heap.size]? = some (.cells #[.int .i64 what, .slice Ag g.length cg, .int .i64 pw, .slice Ac cs.length cc] 57)) := Lib.hid HX9.out.2.2.2.2.2
              clear hnl2 hcv HX9 HCVA
              clear HL5 HM5 HSB5
              have KA := wal_append HL6.out (by show ((st : Nat) : Int) + 15 < 1000000000; have := HST.out; omega) (by decide) (HVG.out.below HL6.out.dk.bel) (Far.rdr HL6.out.dk.at_ HVG.out) HGB.out (by show -9223372036854775808 ≤ (100000 : Int) ∧ (100000 : Int) < 9223372036854775808; omega) (by have := HML.out; omega)
              obtain ⟨st9, hst9, hco⟩ := append_out (q := 100000) (st := st) (fa := 0) (oa := o) g HF7.out (by have := HSUM.out; omega) (by have := HSUM.out; omega)
              obtain ⟨r, hr⟩ : ∃ r, appW lgN g (ld 100000 st 0 o i7 fs7 [(lgN, i7)] []) = r := ⟨_, rfl⟩
              rw [hr] at hco KA
              rw [HNC.out] at hco
              obtain ⟨er, dr⟩ := r
              have HPO := Lib.hid (play_out HNA.out (by have := HNSL.out; omega) (fun b hb => by
                obtain ⟨c, z, hcz, rfl⟩ := hb
                rw [← HNN.out]
                exact good_left HGA.out HGB.out (by have := HSUM.out; omega) hcz) hco)
              have HST9 : Hid (st9 ≤ st + 3) := Lib.hid hst9
              obtain ⟨ns, hns⟩ : ∃ ns, nn = ns := ⟨_, rfl⟩
              have HKA := Lib.hid KA
              clear KA hsf hco hr hst9
              have t1 := cells_blk HSB6.out 1 _ rfl
              go_wp2_with fail
              refine HKA.out.mono ?_
              rintro e w7 ⟨rfl, G7, hls, hlt7⟩
              have HL7 := Lib.hid hls
              have HM7 := Lib.hid (HM6.out.lt HL6.out.lg hlt7)
              have HN7 := Lib.hid (HRX.out.lt HL6.out.lg hlt7)
              have HSB7 : Hid (w7.heap[wr.heap.size]? = some (.cells #[.int .i64 what, .slice Ag g.length cg, .int .i64 pw, .slice Ac cs.length cc] 57)) := Lib.hid ((hlt7.block _ (Array.getElem?_eq_some_iff.1 HSB6.out).1 HSBN.out.1 HSBN.out.2).trans HSB6.out)
              clear hls hlt7 HKA HL6 HM6 HSB6 HRX t1
              subst hns
              rcases HPO.out with ⟨he, hcr⟩ | ⟨he, hcr⟩
              · (try dsimp only at he hcr)
                subst he
                have HCR := Lib.hid hcr
                clear hcr HPO
                have t0 := cells_blk HSB7.out 0 _ rfl
                have t3 := cells_blk HSB7.out 3 _ rfl
                have KX := Lib.hid (k_crash HL7.out.dk (.slice Ac cs.length cc) cs (RdB.below HVC.out HL7.out.dk.bel) HBC.out (Far.old HL7.out.dk.at_ HVC.out))
                go_wp2_with fail
                refine KX.out.mono ?_
                rintro e wx ⟨⟨ux, rfl⟩, Gx, hdx, htx⟩
                obtain ⟨bx, hil, hgood⟩ := HCR.out cs
                have HWx := Lib.hid (HN7.out.tr htx)
                have HNx := Lib.hid (HN7.out.tr htx)
                obtain ⟨hby, hgs, hen, hlx⟩ := hgood
                obtain ⟨d20, st20, hst20, h20, hil20⟩ := hil.loose.opens (by omega) (by omega) hen
                obtain ⟨e1, e2, e3⟩ := take_end hby
                rw [e1] at hil20
                have KO := wal_openF hdx (by rw [hil.loose.steps.1]; have := HST9.out; have := HST.out; omega) (nm := lgN) (by decide) (by decide) (by rw [hil.loose.steps.2]; omega)
                rw [h20, hil.loose.read] at KO
                dsimp only at KO
                obtain ⟨g9, hg9⟩ : ∃ g9, gsOf bx = g9 := ⟨_, rfl⟩
                rw [hg9] at KO hgs e2 hil20
                have HG9 := Lib.hid hgs
                have HGA9 := Lib.hid e2
                have HIL20 := Lib.hid hil20
                have HST20 : Hid (st20 ≤ st9 + 5) := Lib.hid hst20
                have HKO := Lib.hid KO
                have HG9L : Hid ((catG g9).length ≤ S2 ∧ g9.length ≤ k + 1) := Lib.hid (by rw [HG9.out]; exact HNSL.out)
                clear KX hdx htx hil hby hgs hen hlx h20 hil20 hst20 e1 e2 e3 KO hg9
                clear t0 t3
                go_wp2_with fail
                refine HKO.out.mono ?_
                rintro e w20 (⟨-, v20, lb20, G20, rfl, -, hls, hag, ht⟩ | ⟨hno, -⟩)
                case inr => exact absurd rfl hno
                have HL20 : Hid (Ls w1.heap.size p lb20 w1 G20 d20 lgN (g9.length : Int) false w20) := Lib.hid hls
                have HW20 := Lib.hid (HWx.out.tr ht)
                have HN20 := Lib.hid (HNx.out.tr ht)
                have HX20 := Lib.hid (hag.rdF (fun g hg => by have := groupB_len (HGA9.out g hg); omega))
                have hcv20 := hag.cap
                obtain ⟨A20, c20, rfl⟩ := hag.sl
                have HCV20 := Lib.hid hcv20
                have KL := Lib.hid (wal_len lb20 lgN (g9.length : Int) false w20 hls.lg)
                have KG := law22_groups _ _ g9 nn w20 HX20.out.rdG HW20.out.rdG (by have := HG9L.out; omega)
                have KG2 := Lib.hid (fun W (hb : Below w20.heap.size w20 W) => law22_groups _ _ g9 nn W (HX20.out.rdG.below hb) (HN20.out.rdG.below hb) (by have := HG9L.out; omega))
                clear hls hag ht HKO hcv20
                rw [decide_eq_true HG9.out] at KG
                have HKG := Lib.hid KG
                clear KG KG2
                go_wp2_with fail
                refine KL.out.mono ?_
                rintro e w21 ⟨rfl, rfl⟩
                clear KL
                go_wp2_with fail
                refine HKG.out.mono ?_
                rintro e w22 ⟨rfl, hb22⟩
                have HL22 := Lib.hid (HL20.out.below hb22)
                have HX22 := Lib.hid (HX20.out.below hb22)
                clear hb22 HKG HL20 HX20
                go_wp2_with fail

                go_roundw
                case rel => exact ⟨k + 1, lb20, G20, d20, st20, g9, S2, by go_num, by omega, rfl, rfl, HIL20.out, by have := HST20.out; have := HST9.out; have := HST.out; omega, HG9L.out.1, by omega, HL22.out, HX22.out, HCV20.out, HGA9.out, by have := HG9L.out; omega⟩
                case measure => simp [intOf]; omega
              · (try dsimp only at he hcr)
                have HCR := Lib.hid hcr
                clear hcr HPO
                rcases he with he | he
                · subst he
                  have t0 := cells_blk HSB7.out 0 _ rfl
                  have t3 := cells_blk HSB7.out 3 _ rfl
                  have KX := Lib.hid (k_crash HL7.out.dk (.slice Ac cs.length cc) cs (RdB.below HVC.out HL7.out.dk.bel) HBC.out (Far.old HL7.out.dk.at_ HVC.out))
                  go_wp2_with fail
                  refine KX.out.mono ?_
                  rintro e wx ⟨⟨ux, rfl⟩, Gx, hdx, htx⟩
                  obtain ⟨bx, hil, hgood⟩ := HCR.out cs
                  have HWx := Lib.hid (HM7.out.tr htx)
                  have HNx := Lib.hid (HN7.out.tr htx)
                  obtain ⟨hby, hgs, hen, hlx⟩ := hgood
                  obtain ⟨d20, st20, hst20, h20, hil20⟩ := hil.loose.opens (by omega) (by omega) hen
                  obtain ⟨e1, e2, e3⟩ := take_end hby
                  rw [e1] at hil20
                  have KO := wal_openF hdx (by rw [hil.loose.steps.1]; have := HST9.out; have := HST.out; omega) (nm := lgN) (by decide) (by decide) (by rw [hil.loose.steps.2]; omega)
                  rw [h20, hil.loose.read] at KO
                  dsimp only at KO
                  obtain ⟨g9, hg9⟩ : ∃ g9, gsOf bx = g9 := ⟨_, rfl⟩
                  rw [hg9] at KO hgs e2 hil20
                  have HG9 := Lib.hid hgs
                  have HGA9 := Lib.hid e2
                  have HIL20 := Lib.hid hil20
                  have HST20 : Hid (st20 ≤ st9 + 5) := Lib.hid hst20
                  have HKO := Lib.hid KO
                  have HG9L : Hid ((catG g9).length ≤ S2 ∧ g9.length ≤ k + 1) := Lib.hid (by
                    rcases HG9.out with h | h
                    · rw [h]; exact HMSL.out
                    · rw [h]; exact HNSL.out)
                  clear KX hdx htx hil hby hgs hen hlx h20 hil20 hst20 e1 e2 e3 KO hg9
                  clear t0 t3
                  go_wp2_with fail
                  refine HKO.out.mono ?_
                  rintro e w20 (⟨-, v20, lb20, G20, rfl, -, hls, hag, ht⟩ | ⟨hno, -⟩)
                  case inr => exact absurd rfl hno
                  have HL20 : Hid (Ls w1.heap.size p lb20 w1 G20 d20 lgN (g9.length : Int) false w20) := Lib.hid hls
                  have HW20 := Lib.hid (HWx.out.tr ht)
                  have HN20 := Lib.hid (HNx.out.tr ht)
                  have HX20 := Lib.hid (hag.rdF (fun g hg => by have := groupB_len (HGA9.out g hg); omega))
                  have hcv20 := hag.cap
                  obtain ⟨A20, c20, rfl⟩ := hag.sl
                  have HCV20 := Lib.hid hcv20
                  have KL := Lib.hid (wal_len lb20 lgN (g9.length : Int) false w20 hls.lg)
                  have KG := law22_groups _ _ g9 ms w20 HX20.out.rdG HW20.out.rdG (by have := HG9L.out; omega)
                  have KG2 := Lib.hid (fun W (hb : Below w20.heap.size w20 W) => law22_groups _ _ g9 nn W (HX20.out.rdG.below hb) (HN20.out.rdG.below hb) (by have := HG9L.out; omega))
                  clear hls hag ht HKO hcv20
                  by_cases heq : g9 = ms
                  · rw [decide_eq_true heq] at KG
                    have HKG := Lib.hid KG
                    clear KG KG2 heq
                    go_wp2_with fail
                    refine KL.out.mono ?_
                    rintro e w21 ⟨rfl, rfl⟩
                    clear KL
                    go_wp2_with fail
                    refine HKG.out.mono ?_
                    rintro e w22 ⟨rfl, hb22⟩
                    have HL22 := Lib.hid (HL20.out.below hb22)
                    have HX22 := Lib.hid (HX20.out.below hb22)
                    clear hb22 HKG HL20 HX20
                    go_wp2_with fail

                    go_roundw
                    case rel => exact ⟨k + 1, lb20, G20, d20, st20, g9, S2, by go_num, by omega, rfl, rfl, HIL20.out, by have := HST20.out; have := HST9.out; have := HST.out; omega, HG9L.out.1, by omega, HL22.out, HX22.out, HCV20.out, HGA9.out, by have := HG9L.out; omega⟩
                    case measure => simp [intOf]; omega
                  · rw [decide_eq_false heq] at KG
                    have HNE := Lib.hid heq
                    have HKG := Lib.hid KG
                    clear KG heq
                    go_wp2_with fail
                    refine KL.out.mono ?_
                    rintro e w21 ⟨rfl, rfl⟩
                    clear KL
                    go_wp2_with fail
                    refine HKG.out.mono ?_
                    rintro e w22 ⟨rfl, hb22⟩
                    have K2 := KG2.out w22 hb22
                    rw [decide_eq_true (HG9.out.resolve_left HNE.out)] at K2
                    have HK2 := Lib.hid K2
                    have HL22 := Lib.hid (HL20.out.below hb22)
                    have HX22 := Lib.hid (HX20.out.below hb22)
                    clear hb22 HKG HL20 HX20 KG2 K2
                    go_wp2_with fail
                    refine HK2.out.mono ?_
                    rintro e w23 ⟨rfl, hb23⟩
                    have HL23 := Lib.hid (HL22.out.below hb23)
                    have HX23 := Lib.hid (HX22.out.below hb23)
                    clear hb23 HK2 HL22 HX22
                    go_wp2_with fail

                    go_roundw
                    case rel => exact ⟨k + 1, lb20, G20, d20, st20, g9, S2, by go_num, by omega, rfl, rfl, HIL20.out, by have := HST20.out; have := HST9.out; have := HST.out; omega, HG9L.out.1, by omega, HL23.out, HX23.out, HCV20.out, HGA9.out, by have := HG9L.out; omega⟩
                    case measure => simp [intOf]; omega
                · subst he
                  have t0 := cells_blk HSB7.out 0 _ rfl
                  have t3 := cells_blk HSB7.out 3 _ rfl
                  have KX := Lib.hid (k_crash HL7.out.dk (.slice Ac cs.length cc) cs (RdB.below HVC.out HL7.out.dk.bel) HBC.out (Far.old HL7.out.dk.at_ HVC.out))
                  go_wp2_with fail
                  refine KX.out.mono ?_
                  rintro e wx ⟨⟨ux, rfl⟩, Gx, hdx, htx⟩
                  obtain ⟨bx, hil, hgood⟩ := HCR.out cs
                  have HWx := Lib.hid (HM7.out.tr htx)
                  have HNx := Lib.hid (HN7.out.tr htx)
                  obtain ⟨hby, hgs, hen, hlx⟩ := hgood
                  obtain ⟨d20, st20, hst20, h20, hil20⟩ := hil.loose.opens (by omega) (by omega) hen
                  obtain ⟨e1, e2, e3⟩ := take_end hby
                  rw [e1] at hil20
                  have KO := wal_openF hdx (by rw [hil.loose.steps.1]; have := HST9.out; have := HST.out; omega) (nm := lgN) (by decide) (by decide) (by rw [hil.loose.steps.2]; omega)
                  rw [h20, hil.loose.read] at KO
                  dsimp only at KO
                  obtain ⟨g9, hg9⟩ : ∃ g9, gsOf bx = g9 := ⟨_, rfl⟩
                  rw [hg9] at KO hgs e2 hil20
                  have HG9 := Lib.hid hgs
                  have HGA9 := Lib.hid e2
                  have HIL20 := Lib.hid hil20
                  have HST20 : Hid (st20 ≤ st9 + 5) := Lib.hid hst20
                  have HKO := Lib.hid KO
                  have HG9L : Hid ((catG g9).length ≤ S2 ∧ g9.length ≤ k + 1) := Lib.hid (by
                    rcases HG9.out with h | h
                    · rw [h]; exact HMSL.out
                    · rw [h]; exact HNSL.out)
                  clear KX hdx htx hil hby hgs hen hlx h20 hil20 hst20 e1 e2 e3 KO hg9
                  clear t0 t3
                  go_wp2_with fail
                  refine HKO.out.mono ?_
                  rintro e w20 (⟨-, v20, lb20, G20, rfl, -, hls, hag, ht⟩ | ⟨hno, -⟩)
                  case inr => exact absurd rfl hno
                  have HL20 : Hid (Ls w1.heap.size p lb20 w1 G20 d20 lgN (g9.length : Int) false w20) := Lib.hid hls
                  have HW20 := Lib.hid (HWx.out.tr ht)
                  have HN20 := Lib.hid (HNx.out.tr ht)
                  have HX20 := Lib.hid (hag.rdF (fun g hg => by have := groupB_len (HGA9.out g hg); omega))
                  have hcv20 := hag.cap
                  obtain ⟨A20, c20, rfl⟩ := hag.sl
                  have HCV20 := Lib.hid hcv20
                  have KL := Lib.hid (wal_len lb20 lgN (g9.length : Int) false w20 hls.lg)
                  have KG := law22_groups _ _ g9 ms w20 HX20.out.rdG HW20.out.rdG (by have := HG9L.out; omega)
                  have KG2 := Lib.hid (fun W (hb : Below w20.heap.size w20 W) => law22_groups _ _ g9 nn W (HX20.out.rdG.below hb) (HN20.out.rdG.below hb) (by have := HG9L.out; omega))
                  clear hls hag ht HKO hcv20
                  by_cases heq : g9 = ms
                  · rw [decide_eq_true heq] at KG
                    have HKG := Lib.hid KG
                    clear KG KG2 heq
                    go_wp2_with fail
                    refine KL.out.mono ?_
                    rintro e w21 ⟨rfl, rfl⟩
                    clear KL
                    go_wp2_with fail
                    refine HKG.out.mono ?_
                    rintro e w22 ⟨rfl, hb22⟩
                    have HL22 := Lib.hid (HL20.out.below hb22)
                    have HX22 := Lib.hid (HX20.out.below hb22)
                    clear hb22 HKG HL20 HX20
                    go_wp2_with fail

                    go_roundw
                    case rel => exact ⟨k + 1, lb20, G20, d20, st20, g9, S2, by go_num, by omega, rfl, rfl, HIL20.out, by have := HST20.out; have := HST9.out; have := HST.out; omega, HG9L.out.1, by omega, HL22.out, HX22.out, HCV20.out, HGA9.out, by have := HG9L.out; omega⟩
                    case measure => simp [intOf]; omega
                  · rw [decide_eq_false heq] at KG
                    have HNE := Lib.hid heq
                    have HKG := Lib.hid KG
                    clear KG heq
                    go_wp2_with fail
                    refine KL.out.mono ?_
                    rintro e w21 ⟨rfl, rfl⟩
                    clear KL
                    go_wp2_with fail
                    refine HKG.out.mono ?_
                    rintro e w22 ⟨rfl, hb22⟩
                    have K2 := KG2.out w22 hb22
                    rw [decide_eq_true (HG9.out.resolve_left HNE.out)] at K2
                    have HK2 := Lib.hid K2
                    have HL22 := Lib.hid (HL20.out.below hb22)
                    have HX22 := Lib.hid (HX20.out.below hb22)
                    clear hb22 HKG HL20 HX20 KG2 K2
                    go_wp2_with fail
                    refine HK2.out.mono ?_
                    rintro e w23 ⟨rfl, hb23⟩
                    have HL23 := Lib.hid (HL22.out.below hb23)
                    have HX23 := Lib.hid (HX22.out.below hb23)
                    clear hb23 HK2 HL22 HX22
                    go_wp2_with fail

                    go_roundw
                    case rel => exact ⟨k + 1, lb20, G20, d20, st20, g9, S2, by go_num, by omega, rfl, rfl, HIL20.out, by have := HST20.out; have := HST9.out; have := HST.out; omega, HG9L.out.1, by omega, HL23.out, HX23.out, HCV20.out, HGA9.out, by have := HG9L.out; omega⟩
                    case measure => simp [intOf]; omega
            | false =>
              have KA := Lib.hid (wal_append_no HL5.out (HVG.out.below HL5.out.dk.bel) hgb)
              clear hgb
              obtain ⟨ns, hns⟩ : ∃ ns, ms = ns := ⟨_, rfl⟩
              have HCR : Hid (Crashes 100000 st (OneB ms) (ld 100000 st 0 o i7 fs7 [(lgN, i7)] [])) := Lib.hid ((kept_crash HF7.out).imp (fun b hb => by rw [hb]; exact one_cat HGA.out (by have := HCL.out; omega)))
              obtain ⟨st9, hst9⟩ : ∃ st9, st = st9 := ⟨_, rfl⟩
              have HST9 : Hid (st9 ≤ st + 3) := Lib.hid (by omega)
              rw [show Crashes 100000 st = Crashes 100000 st9 by rw [hst9]] at HCR
              have HNS := Lib.hid hns
              have HS9 := Lib.hid hst9
              clear hns hst9
              have t1 := cells_blk HSB5.out 1 _ rfl
              go_wp2_with fail
              refine KA.out.mono ?_
              rintro e w6 ⟨rfl, hb6⟩
              have HL6 := Lib.hid (HL5.out.below hb6)
              have HM6 := Lib.hid (HM5.out.below hb6)
              have HN6 : Hid (RdF G w6 (.slice Am ms.length cm) ns) := Lib.hid (by rw [← HNS.out]; exact HM6.out)
              have HSB6 : Hid (w6.heap[wr.heap.size]? = some (.cells #[.int .i64 what, .slice Ag g.length cg, .int .i64 pw, .slice Ac cs.length cc] 57)) := Lib.hid ((hb6.block _ (Array.getElem?_eq_some_iff.1 HSB5.out).1).trans HSB5.out)
              clear hb6 KA HL5 HM5 HSB5 t1
              have t0 := cells_blk HSB6.out 0 _ rfl
              have t3 := cells_blk HSB6.out 3 _ rfl
              have KX := Lib.hid (k_crash HL6.out.dk (.slice Ac cs.length cc) cs (RdB.below HVC.out HL6.out.dk.bel) HBC.out (Far.old HL6.out.dk.at_ HVC.out))
              go_wp2_with fail
              refine KX.out.mono ?_
              rintro e wx ⟨⟨ux, rfl⟩, Gx, hdx, htx⟩
              obtain ⟨bx, hil, hgood⟩ := HCR.out cs
              have HWx := Lib.hid (HM6.out.tr htx)
              have HNx := Lib.hid (HN6.out.tr htx)
              obtain ⟨hby, hgs, hen, hlx⟩ := hgood
              obtain ⟨d20, st20, hst20, h20, hil20⟩ := hil.loose.opens (by omega) (by omega) hen
              obtain ⟨e1, e2, e3⟩ := take_end hby
              rw [e1] at hil20
              have KO := wal_openF hdx (by rw [hil.loose.steps.1]; have := HST9.out; have := HST.out; omega) (nm := lgN) (by decide) (by decide) (by rw [hil.loose.steps.2]; omega)
              rw [h20, hil.loose.read] at KO
              dsimp only at KO
              obtain ⟨g9, hg9⟩ : ∃ g9, gsOf bx = g9 := ⟨_, rfl⟩
              rw [hg9] at KO hgs e2 hil20
              have HG9 := Lib.hid hgs
              have HGA9 := Lib.hid e2
              have HIL20 := Lib.hid hil20
              have HST20 : Hid (st20 ≤ st9 + 5) := Lib.hid hst20
              have HKO := Lib.hid KO
              have HG9L : Hid ((catG g9).length ≤ S2 ∧ g9.length ≤ k + 1) := Lib.hid (by rw [HG9.out]; exact HMSL.out)
              clear KX hdx htx hil hby hgs hen hlx h20 hil20 hst20 e1 e2 e3 KO hg9
              clear t0 t3
              go_wp2_with fail
              refine HKO.out.mono ?_
              rintro e w20 (⟨-, v20, lb20, G20, rfl, -, hls, hag, ht⟩ | ⟨hno, -⟩)
              case inr => exact absurd rfl hno
              have HL20 : Hid (Ls w1.heap.size p lb20 w1 G20 d20 lgN (g9.length : Int) false w20) := Lib.hid hls
              have HW20 := Lib.hid (HWx.out.tr ht)
              have HN20 := Lib.hid (HNx.out.tr ht)
              have HX20 := Lib.hid (hag.rdF (fun g hg => by have := groupB_len (HGA9.out g hg); omega))
              have hcv20 := hag.cap
              obtain ⟨A20, c20, rfl⟩ := hag.sl
              have HCV20 := Lib.hid hcv20
              have KL := Lib.hid (wal_len lb20 lgN (g9.length : Int) false w20 hls.lg)
              have KG := law22_groups _ _ g9 ms w20 HX20.out.rdG HW20.out.rdG (by have := HG9L.out; omega)
              have KG2 := Lib.hid (fun W (hb : Below w20.heap.size w20 W) => law22_groups _ _ g9 ns W (HX20.out.rdG.below hb) (HN20.out.rdG.below hb) (by have := HG9L.out; omega))
              clear hls hag ht HKO hcv20
              rw [decide_eq_true HG9.out] at KG
              have HKG := Lib.hid KG
              clear KG KG2
              go_wp2_with fail
              refine KL.out.mono ?_
              rintro e w21 ⟨rfl, rfl⟩
              clear KL
              go_wp2_with fail
              refine HKG.out.mono ?_
              rintro e w22 ⟨rfl, hb22⟩
              have HL22 := Lib.hid (HL20.out.below hb22)
              have HX22 := Lib.hid (HX20.out.below hb22)
              clear hb22 HKG HL20 HX20
              go_wp2_with fail

              go_roundw
              case rel => exact ⟨k + 1, lb20, G20, d20, st20, g9, S2, by go_num, by omega, rfl, rfl, HIL20.out, by have := HST20.out; have := HST9.out; have := HST.out; omega, HG9L.out.1, by omega, HL22.out, HX22.out, HCV20.out, HGA9.out, by have := HG9L.out; omega⟩
              case measure => simp [intOf]; omega
        · have h5' : what < 5 := by omega
          by_cases h4 : what = 4
          · have hw4 : (what == 4) = true := by rw [h4]; rfl
            have htm : what.tmod 5 = 4 := by rw [h4]; rfl
            obtain ⟨d2, hfr, hil2⟩ := HIL.out.fresh
            have KC := wal_clear HL3.out (by rw [HIL.out.steps.1]; have := HST.out; omega) (by decide)
            rw [hfr] at KC
            have HKC := Lib.hid KC
            have HIL2 := Lib.hid hil2
            clear KC hfr hil2 h4
            go_wp2_with fail
            refine HKC.out.mono ?_
            rintro e w4 ⟨rfl, G4, hls, hlt4⟩
            have HL4 : Hid (Ls w1.heap.size p lb w1 G4 d2 lgN ((([] : List (List Rc)).length : Nat) : Int) false w4) := Lib.hid hls
            have KL := Lib.hid (wal_len lb lgN ((([] : List (List Rc)).length : Nat) : Int) false w4 HL4.out.lg)
            have HSB4 : Hid (w4.heap[wr.heap.size]? = some (.cells #[.int .i64 what, .slice Ag g.length cg, .int .i64 pw, .slice Ac cs.length cc] 57)) := Lib.hid ((hlt4.block _ (Array.getElem?_eq_some_iff.1 HSB3.out).1 HSBN.out.1 HSBN.out.2).trans HSB3.out)
            clear hls hlt4 HKC t0 t1 t2 t3
            have t0 := cells_blk HSB4.out 0 _ rfl
            go_wp2_with fail
            refine KL.out.mono ?_
            rintro e wl ⟨rfl, rfl⟩
            clear KL
            go_wp2_with fail

            go_roundw
            case rel => exact ⟨k + 1, lb, G4, d2, st + 3, [], S2, by go_num, by omega, rfl, rfl, HIL2.out, by have := HST.out; omega, by simp [catG], by omega, HL4.out, RdF.nil _ _, CapV.nil, fun x hx => by simp at hx, by simp⟩
            case measure => simp [intOf]; omega
          · have h4f : (what == 4) = false := by rw [beq_eq_false_iff_ne]; exact h4
            obtain ⟨tm, htm⟩ : ∃ tm, what.tmod 5 = tm := ⟨_, rfl⟩
            have htf : (tm == 4) = false := by
              rw [beq_eq_false_iff_ne, ← htm]
              intro h
              have e1 := Int.tmod_add_tdiv_mul what 5
              rcases Int.le_total 0 what with hw0 | hw0
              · rw [Int.tmod_eq_emod_of_nonneg hw0] at h
                omega
              · have h7 := Int.neg_tmod (-what) 5
                rw [Int.neg_neg, Int.tmod_eq_emod_of_nonneg (a := -what) (by omega)] at h7
                omega
            have RG := Lib.hid (ref21_group (.slice Ag g.length cg) g w3 (HVG.out.below HL3.out.dk.bel))
            obtain ⟨gb, hgb⟩ : ∃ gb, groupB g = gb := ⟨_, rfl⟩
            rw [hgb] at RG
            clear h4
            go_wp2_with fail
            refine RG.out.mono ?_
            rintro e w4 ⟨rfl, hb4⟩
            have HL4 := Lib.hid (HL3.out.below hb4)
            have HM4 := Lib.hid (HM3.out.below hb4)
            have HSB4 : Hid (w4.heap[wr.heap.size]? = some (.cells #[.int .i64 what, .slice Ag g.length cg, .int .i64 pw, .slice Ac cs.length cc] 57)) := Lib.hid ((hb4.block _ (Array.getElem?_eq_some_iff.1 HSB3.out).1).trans HSB3.out)
            clear hb4 RG t0 t1 t2 t3
            cases gb with
            | true =>
              obtain ⟨nn, hnn⟩ : ∃ nn, ms ++ [g] = nn := ⟨_, rfl⟩
              have hnl : nn.length = ms.length + 1 := by rw [← hnn, List.length_append]; rfl
              have hnc : catG ms ++ encG g = catG nn := by rw [← hnn]; exact (catG_snoc ms g).symm
              have HNA : Hid (∀ x ∈ nn, groupB x = true) := Lib.hid (fun x hx => by
                rw [← hnn] at hx
                rcases List.mem_append.1 hx with h | h
                · exact HGA.out x h
                · rw [List.mem_singleton] at h; rw [h]; exact hgb)
              have HNSL : Hid ((catG nn).length ≤ S2 ∧ nn.length ≤ k + 1) := Lib.hid (by rw [← hnc, List.length_append, hnl]; have := HSUM.out; have := HMK.out; omega)
              have HNL := Lib.hid hnl
              have HNC := Lib.hid hnc
              have HNN := Lib.hid hnn
              have HGB := Lib.hid hgb
              clear hnl hnc hnn
              obtain ⟨d2, hap, hil2⟩ := HIL.out.append g (by have := HSUM.out; omega) (by have := HSUM.out; omega)
              rw [HNC.out] at hil2
              have HAP := Lib.hid hap
              have HIL2 := Lib.hid hil2
              have HNW : Hid (NowS w1 p lb G _ (ms.length : Int) Am ms cm (.slice Ag g.length cg) g wr.heap.size (.cells #[.int .i64 what, .slice Ag g.length cg, .int .i64 pw, .slice Ac cs.length cc] 57) w4) := Lib.hid ⟨HL4.out, RdF.cap HM4.out, HM4.out, HVG.out.below HL4.out.dk.bel, Far.rdr HL4.out.dk.at_ HVG.out, HSB4.out⟩
              have hsf := slice_full Am ms.length cm HCM.out
              clear hap hil2 hgb
              go_wp2_with fail
              refine wp_region_noPanic ?_
              refine wp_region_held_drew (S := (fun X => X.cell? ⟨wr.heap.size, 1, none⟩ = some (.slice Ag g.length cg) ∧ NowS w1 p lb G d (ms.length : Int) Am ms cm (.slice Ag g.length cg) g wr.heap.size (.cells #[.int .i64 what, .slice Ag g.length cg, .int .i64 pw, .slice Ac cs.length cc] 57) X)) (by kernel_rfl) ⟨cells_blk HSB4.out 1 _ rfl, HNW.out.below (Below.refl _ _).drew⟩ (fun hHeld => ?_)
              refine held_sharp hHeld (fun _ h => h) (fun X hHeld => ?_)
              have hX := hHeld
              refine held_take (i := 0) (v := ?_) rfl (by kernel_rfl) (by kernel_rfl) (by kernel_rfl) (fun _ _ _ h => h) (by rfl) hHeld ?y23_0 ?_
              case y23_0 => (intro w hSw; (try dsimp only at hSw); go_simp; try with_reducible rfl)
              try simp only [Act.put, List.setIfInBounds_toArray, List.set_cons_zero, List.set_cons_succ]
              refine held_take (i := 1) (v := ?_) rfl (by kernel_rfl) (by kernel_rfl) (by kernel_rfl) (fun _ _ _ h => h) (by rfl) hHeld ?y23_1 ?_
              case y23_1 => (intro w hSw; (try dsimp only at hSw); go_simp; try with_reducible rfl)
              try simp only [Act.put, List.setIfInBounds_toArray, List.set_cons_zero, List.set_cons_succ]
              refine held_take (i := 2) (v := ?_) rfl (by kernel_rfl) (by kernel_rfl) (by kernel_rfl) (fun _ _ _ h => h) (by rfl) hHeld ?y23_2 ?_
              case y23_2 => (intro w hSw; (try dsimp only at hSw); go_simp; try with_reducible rfl)
              try simp only [Act.put, List.setIfInBounds_toArray, List.set_cons_zero, List.set_cons_succ]
              refine held_take (i := 3) (v := ?_) rfl (by kernel_rfl) (by kernel_rfl) (by kernel_rfl) (fun _ _ _ h => h) (by rfl) hHeld ?y23_3 ?_
              case y23_3 => (intro w hSw; (try dsimp only at hSw); go_simp; try with_reducible rfl)
              try simp only [Act.put, List.setIfInBounds_toArray, List.set_cons_zero, List.set_cons_succ]
              refine held_take (i := 4) (v := ?_) rfl (by kernel_rfl) (by kernel_rfl) (by kernel_rfl) (fun _ _ _ h => h) (by rfl) hHeld ?y23_4 ?_
              case y23_4 => (intro w hSw; (try dsimp only at hSw); go_simp; try with_reducible rfl)
              try simp only [Act.put, List.setIfInBounds_toArray, List.set_cons_zero, List.set_cons_succ]
              refine held_take (i := 5) (v := ?_) rfl (by kernel_rfl) (by kernel_rfl) (by kernel_rfl) (fun _ _ _ h => h) (by rfl) hHeld ?y23_5 ?_
              case y23_5 => (intro w hSw; (try dsimp only at hSw); go_simp; try with_reducible rfl)
              try simp only [Act.put, List.setIfInBounds_toArray, List.set_cons_zero, List.set_cons_succ]
              refine held_take (i := 6) (v := ?_) rfl (by kernel_rfl) (by kernel_rfl) (by kernel_rfl) (fun _ _ _ h => h) (by rfl) hHeld ?y23_6 ?_
              case y23_6 => (intro w hSw; (try dsimp only at hSw); go_simp; try with_reducible rfl)
              try simp only [Act.put, List.setIfInBounds_toArray, List.set_cons_zero, List.set_cons_succ]
              refine held_take (i := 7) (v := ?_) rfl (by kernel_rfl) (by kernel_rfl) (by kernel_rfl) (fun _ _ _ h => h) (by rfl) hHeld ?y23_7 ?_
              case y23_7 => (intro w hSw; (try dsimp only at hSw); go_simp; try with_reducible rfl)
              try simp only [Act.put, List.setIfInBounds_toArray, List.set_cons_zero, List.set_cons_succ]
              refine held_one (i := 8) (by kernel_rfl) rfl (fun K hK => ?_)
              (have hS8 := nows_alloc hHeld (.cells #[.slice Ag g.length cg] 32); go_simp)
              refine hK.out _ _ ?_ (fun hHeld => ?_)
              · exact hS8
              clear hK K
              try simp only [Act.put, List.setIfInBounds_toArray, List.set_cons_zero, List.set_cons_succ]
              refine held_one (i := 9) (by kernel_rfl) rfl (fun K hK => ?_)
              (obtain ⟨va, wa, hrun, hrfa, hba, hcva⟩ := full_append_cap (y := .slice Ag g.length cg) (g := g) hX.2.2.1 hX.2.1.dk.at_ hX.2.2.2.2.1 hX.2.2.2.2.2.1 (by have := HML.out; omega) 27; have hS9 := nows_below hX hba; refine step_append_run rfl _ _ 27 rfl _ _ va wa rfl rfl hrun ?_)
              refine hK.out _ _ ?_ (fun hHeld => ?_)
              · exact hS9
              clear hK K
              try simp only [Act.put, List.setIfInBounds_toArray, List.set_cons_zero, List.set_cons_succ]
              refine held_take (i := 10) (v := ?_) rfl (by kernel_rfl) (by kernel_rfl) (by kernel_rfl) (fun _ _ _ h => h) (by rfl) hHeld ?y23_10 ?_
              case y23_10 => (intro w hSw; (try dsimp only at hSw); go_simp; try with_reducible rfl)
              try simp only [Act.put, List.setIfInBounds_toArray, List.set_cons_zero, List.set_cons_succ]
              refine wpAnyH_done (by kernel_rfl) ?_ _
              refine NoPanic.normal ?_
              have HRX := Lib.hid hrfa
              have HX9 := Lib.hid hHeld.2
              have HCVA := Lib.hid hcva
              clear hcva hHeld hrfa hba hrun hX HNW
              rw [HNN.out] at HRX
              obtain ⟨Av, cv, hva, hcv⟩ := HCVA.out
              have hnl2 := HNL.out
              rw [← hnl2] at hva hcv
              subst hva
              have HCAP : Hid (CapV (.slice Av nn.length cv)) := Lib.hid (fun A' n' c' he => by injection he with _ e2 e3; omega)
              have HL5 := Lib.hid HX9.out.1
              have HM5 := Lib.hid HX9.out.2.2.1
              have HSB5 : Hid (wa.heap[wr.heap.size]? = some (.cells #[.int .i64 what, .slice Ag g.length cg, .int .i64 pw, .slice Ac cs.length cc] 57)) := Lib.hid HX9.out.2.2.2.2.2
              clear hnl2 hcv HX9 HCVA
              have KA := wal_append HL5.out (by rw [HIL.out.steps.1]; have := HST.out; omega) (by decide) (HVG.out.below HL5.out.dk.bel) (Far.rdr HL5.out.dk.at_ HVG.out) HGB.out (by rw [HIL.out.steps.2]; omega) (by have := HML.out; omega)
              rw [HAP.out] at KA
              have HKA := Lib.hid KA
              clear KA hsf
              have t1 := cells_blk HSB5.out 1 _ rfl
              go_wp2_with fail
              refine HKA.out.mono ?_
              rintro e w6 ⟨rfl, G6, hls, hlt6⟩
              have hnli : (nn.length : Int) = (ms.length : Int) + 1 := by have := HNL.out; omega
              have HL6 : Hid (Ls w1.heap.size p lb w1 G6 d2 lgN (nn.length : Int) false w6) := Lib.hid (by rw [hnli]; exact hls)
              have HR6 := Lib.hid (HRX.out.lt HL5.out.lg hlt6)
              have HSB6 : Hid (w6.heap[wr.heap.size]? = some (.cells #[.int .i64 what, .slice Ag g.length cg, .int .i64 pw, .slice Ac cs.length cc] 57)) := Lib.hid ((hlt6.block _ (Array.getElem?_eq_some_iff.1 HSB5.out).1 HSBN.out.1 HSBN.out.2).trans HSB5.out)
              have RG := Lib.hid (ref21_group (.slice Ag g.length cg) g w6 (HVG.out.below HL6.out.dk.bel))
              rw [HGB.out] at RG
              clear hls hlt6 HKA HL5 HM5 HSB5 HRX t1 hnli
              have t0 := cells_blk HSB6.out 0 _ rfl
              have t1 := cells_blk HSB6.out 1 _ rfl
              go_wp2_with fail
              refine RG.out.mono ?_
              rintro e w7 ⟨rfl, hb7⟩
              have HL7 := Lib.hid (HL6.out.below hb7)
              have HR7 := Lib.hid (HR6.out.below hb7)
              have KL := Lib.hid (wal_len lb lgN (nn.length : Int) false w7 HL7.out.lg)
              clear hb7 RG HL6 HR6 t0 t1
              go_wp2_with fail
              refine KL.out.mono ?_
              rintro e wl ⟨rfl, rfl⟩
              clear KL
              go_wp2_with fail

              go_roundw
              case rel => exact ⟨k + 1, lb, G6, d2, st + 2, nn, S2, by go_num, by omega, rfl, rfl, HIL2.out, by have := HST.out; omega, HNSL.out.1, by omega, HL7.out, HR7.out, HCAP.out, HNA.out, HNSL.out.2⟩
              case measure => simp [intOf]; omega
            | false =>
              have KA := Lib.hid (wal_append_no HL4.out (HVG.out.below HL4.out.dk.bel) hgb)
              have HGB := Lib.hid hgb
              clear hgb
              have t1 := cells_blk HSB4.out 1 _ rfl
              go_wp2_with fail
              refine KA.out.mono ?_
              rintro e w5 ⟨rfl, hb5⟩
              have HL5 := Lib.hid (HL4.out.below hb5)
              have HM5 := Lib.hid (HM4.out.below hb5)
              have HSB5 : Hid (w5.heap[wr.heap.size]? = some (.cells #[.int .i64 what, .slice Ag g.length cg, .int .i64 pw, .slice Ac cs.length cc] 57)) := Lib.hid ((hb5.block _ (Array.getElem?_eq_some_iff.1 HSB4.out).1).trans HSB4.out)
              have RG := Lib.hid (ref21_group (.slice Ag g.length cg) g w5 (HVG.out.below HL5.out.dk.bel))
              rw [HGB.out] at RG
              clear hb5 KA HL4 HM4 t1
              have t0 := cells_blk HSB5.out 0 _ rfl
              have t1 := cells_blk HSB5.out 1 _ rfl
              go_wp2_with fail
              refine RG.out.mono ?_
              rintro e w6 ⟨rfl, hb6⟩
              have HL6 := Lib.hid (HL5.out.below hb6)
              have HM6 := Lib.hid (HM5.out.below hb6)
              have KL := Lib.hid (wal_len lb lgN (ms.length : Int) false w6 HL6.out.lg)
              clear hb6 RG HL5 HM5 t0 t1
              go_wp2_with fail
              refine KL.out.mono ?_
              rintro e wl ⟨rfl, rfl⟩
              clear KL
              go_wp2_with fail

              go_roundw
              case rel => exact ⟨k + 1, lb, G, d, st, ms, S2, by go_num, by omega, rfl, rfl, HIL.out, by have := HST.out; omega, HMSL.out.1, by omega, HL6.out, HM6.out, fun A' n' c' he => by injection he with _ e2 e3; have := HCM.out; omega, HGA.out, HMSL.out.2⟩
              case measure => simp [intOf]; omega
    · have hge : ¬ (k : Int) < (ls.length : Int) := by omega
      have HBL := Lib.hid HL.out.dk.bel
      go_wp2_with fail
      go_ret
      exact ⟨rfl, HB1.out.trans (HBL.out.mono HB1.out.size)⟩
end Go.Proofs.Ytmdecbockpgagaa
