import Derived.Test.YtmdecbockpgagaaWalAll
import Derived.Test.YtmdecbockpgagaaDiskPlain
/- package wal: steps. -/
namespace Go.Proofs.Ytmdecbockpgagaa
open Go.RowKit Go.Maps Go.Proofs.YtmdecbockpgagaaW.PrintWords Go.Proofs.YtmdecbockpgagaaW.PrintMore

set_option maxRecDepth 100000 in
set_option maxHeartbeats 1000000 in
theorem wal_steps (g n : Nat) (F : Nat → FuncId) (b c : Nat → Array Value) (I : Nat → World → Prop) (R : Int → World → Prop) (w : World)
    (hrow : ∀ k W, k < n → I k W → W.cell? ⟨g, k, none⟩ = some (.func (.func (F k)) (b k) (c k)))
    (hcall : ∀ k W, k < n → I k W → Calls Try.prog (F k) (b k ++ c k) W fun e W' => ∃ er : Int, e = .returned (.int .i64 er) ∧ (er ≠ 0 → R er W') ∧ (er = 0 → I (k + 1) W'))
    (hent : ∀ k, k < n → ∀ args W, (callFunc (F k) args).run Try.prog W = .ok (.enter (F k) args) W) (h0 : I 0 w) (hend : ∀ W, I n W → R 0 W) (hn : n ≤ 100) :
    Calls Try.prog 35 #[.slice (some ⟨g, 0, none⟩) n n] w fun e w' => ∃ er : Int, e = .returned (.int .i64 er) ∧ R er w' := by
  have HR := Lib.hid hrow
  have HC := Lib.hid hcall
  have HE := Lib.hid hend
  have H0 := Lib.hid h0
  have HEN := Lib.hid hent
  clear hrow hcall hend h0 hent
  go_enter Try.func35, Try.ntmps35
  go_wp2_with fail
  go_loopw [8] (fun i wr => ∃ k : Nat, k ≤ n ∧ i = .int .i64 (k : Int) ∧ I k wr) (fun i _ => n - (intOf i).toNat)
  case atStart => exact ⟨0, Nat.zero_le _, rfl, H0.out⟩
  case round =>
    obtain ⟨k, hk, rfl, hi⟩ := hrel
    have HI := Lib.hid hi
    clear hi
    by_cases hlt : k < n
    · have hlt' : (k : Int) < (n : Int) := by omega
      have hc := HR.out k wr hlt HI.out
      have hx : ∀ W, (Instr.indexAt 91 (.slice (some ⟨g, 0, none⟩) n n) (.int .i64 (k : Int))).run Try.prog W = .ok (.pointer (some ⟨g, k, none⟩)) W := fun W => by
        have h2 : 0 ≤ (k : Int) ∧ (k : Int) < (n : Int) := ⟨by omega, by omega⟩
        have h3 : ({ block := g, off := 0, spot := none } : Addr).add k = ⟨g, k, none⟩ := by
          unfold Addr.add; split <;> simp_all
        go_simp
      have hen := HEN.out k hlt (b k ++ c k) wr
      have KC := Lib.hid (HC.out k wr hlt HI.out)
      obtain ⟨args, hargs⟩ : ∃ a, b k ++ c k = a := ⟨_, rfl⟩
      rw [hargs] at hen KC
      go_wp2_with fail
      refine KC.out.mono ?_
      rintro e w2 ⟨er, rfl, h1, h2⟩
      have HN1 := Lib.hid h1
      have HN2 := Lib.hid h2
      clear h1 h2 KC hen hx hc
      by_cases he : er = 0
      · subst he
        have HI2 := Lib.hid (HN2.out rfl)
        go_wp2_with fail
        go_roundw
        case rel => exact ⟨k + 1, hlt, by go_num, HI2.out⟩
        case measure => simp [intOf]; omega
      · have he' : (er == 0) = false := by rw [beq_eq_false_iff_ne]; exact he
        have HRR := Lib.hid (HN1.out he)
        go_wp2_with fail
        go_ret
        exact ⟨er, rfl, HRR.out⟩
    · have hge : ¬ (k : Int) < (n : Int) := by omega
      obtain rfl : k = n := by omega
      go_wp2_with fail
      go_ret
      exact ⟨0, rfl, HE.out _ HI.out⟩
end Go.Proofs.Ytmdecbockpgagaa

/- package wal: what a log does on its disk. -/
namespace Go.Proofs.Ytmdecbockpgagaa
open Go.RowKit Go.Maps Go.Proofs.YtmdecbockpgagaaW.PrintWords Go.Proofs.YtmdecbockpgagaaW.PrintMore
variable {B p : Nat} {w0 : World} {G : DG} {d : DS} {w w' : World}

/-- Steps one behind the other, up to the first error. -/
def runL : List (DS → Int × DS) → DS → Int × DS
  | [], d => (0, d)
  | f :: fs, d => if (f d).1 = 0 then runL fs (f d).2 else f d
/-- A log lies at block lb. -/
def Lg (w : World) (lb p : Nat) (nm : Nm) (ng : Int) (br : Bool) : Prop := w.heap[lb]? = some (.cells #[pv p, .string (S nm), .int .i64 ng, .bool br] 64)
theorem Lg.tr {lb : Nat} {nm : Nm} {ng : Int} {br : Bool} {G' : DG} (hl : Lg w lb p nm ng br) (hf : ¬ G.has lb) (ht : Tr w G w' G') : Lg w' lb p nm ng br ∧ ¬ G'.has lb :=
  ⟨(ht.block lb (Array.getElem?_eq_some_iff.1 hl).1 hf).trans hl, fun hh => hf (ht.foot lb (Array.getElem?_eq_some_iff.1 hl).1 hh)⟩
theorem steps_disk (g n : Nat) (F : Nat → FuncId) (b c : Nat → Array Value) (ops : List (DS → Int × DS)) (hn : ops.length = n) (h100 : n ≤ 5) (sl : Int) (h : Dk B p w0 G d w) (hst : d.steps + sl + 15 < 1000000000)
    (hcells : ∀ k, k < n → w.cell? ⟨g, k, none⟩ = some (.func (.func (F k)) (b k) (c k))) (hg : ¬ G.has g) (hglt : g < w.heap.size)
    (hent : ∀ k, k < n → ∀ args W, (callFunc (F k) args).run Try.prog W = .ok (.enter (F k) args) W)
    (hop : ∀ k f, ops[k]? = some f → ∀ G' dk W, Dk B p w0 G' dk W → Tr w G W G' → dk.steps + sl < 1000000000 → dk.quota = d.quota → Calls Try.prog (F k) (b k ++ c k) W fun e W' => e = .returned (.int .i64 (f dk).1) ∧ ∃ G'', Dk B p w0 G'' (f dk).2 W' ∧ Tr W G' W' G'')
    (hstep : ∀ f ∈ ops, ∀ dk : DS, (f dk).2.steps ≤ dk.steps + 3 ∧ (f dk).2.quota = dk.quota) :
    Calls Try.prog 35 #[.slice (some ⟨g, 0, none⟩) n n] w fun e w' => e = .returned (.int .i64 (runL ops d).1) ∧ ∃ G', Dk B p w0 G' (runL ops d).2 w' ∧ Tr w G w' G' := by
  refine (wal_steps g n F b c
    (fun k W => ∃ G' dk, Dk B p w0 G' dk W ∧ Tr w G W G' ∧ runL ops d = runL (ops.drop k) dk ∧ dk.steps ≤ d.steps + 3 * k ∧ dk.quota = d.quota)
    (fun er W => er = (runL ops d).1 ∧ ∃ G', Dk B p w0 G' (runL ops d).2 W ∧ Tr w G W G') w ?_ ?_ hent ⟨G, d, h, Tr.refl w G, rfl, by simp, rfl⟩ ?_ (by omega)).mono ?_
  · rintro k W hk ⟨G', dk, hd, ht, -⟩
    have := hcells k hk
    unfold World.cell? at this ⊢
    rw [show W.heap[(⟨g, k, none⟩ : Addr).block]? = w.heap[g]? from ht.block g hglt hg]
    exact this
  · rintro k W hk ⟨G', dk, hd, ht, hr, hs, hq⟩
    have hk' : k < ops.length := by omega
    refine (hop k ops[k] (List.getElem?_eq_getElem hk') G' dk W hd ht (by omega) hq).mono ?_
    rintro e W' ⟨rfl, G'', hd2, ht2⟩
    have hdrop : ops.drop k = ops[k] :: ops.drop (k + 1) := List.drop_eq_getElem_cons hk'
    obtain ⟨e1, e2⟩ := hstep _ (List.getElem_mem hk') dk
    refine ⟨_, rfl, fun he => ?_, fun he => ⟨G'', _, hd2, ht.trans ht2, ?_, by have := e1; omega, by rw [e2, hq]⟩⟩
    · have : runL ops d = ops[k] dk := by
        rw [hr, hdrop]
        exact if_neg he
      rw [this]
      exact ⟨rfl, G'', hd2, ht.trans ht2⟩
    · rw [hr, hdrop]
      exact if_pos he
  · rintro W ⟨G', dk, hd, ht, hr, -⟩
    rw [List.drop_eq_nil_of_le (by omega)] at hr
    rw [hr]
    exact ⟨rfl, G', hd, ht⟩
  · rintro e W' ⟨er, rfl, rfl, hG⟩
    exact ⟨rfl, hG⟩

set_option maxRecDepth 100000 in
set_option maxHeartbeats 1000000 in
theorem keeps1 (h : Dk B p w0 G d w) (hst : d.steps < 1000000000) {lb ob : Nat} {nm : Nm} {ng : Int} {br : Bool} (hl : Lg w lb p nm ng br) (hf : ¬ G.has lb) (ho : w.heap[ob]? = some (.cells #[pv lb] 26)) (hob : ¬ G.has ob) (hn : nm.length ≤ 1000000) :
    Calls Try.prog 61 #[.pointer (some ⟨ob, 0, none⟩)] w fun e w' => e = .returned (.int .i64 (d.sync nm).1) ∧ ∃ G', Dk B p w0 G' (d.sync nm).2 w' ∧ Tr w G w' G' := by
  have SS : Hid (∀ W' G', Tr w.drew G W' G' → W'.cell? ⟨ob, 0, none⟩ = some (pv lb) ∧ W'.cell? ⟨lb, 0, none⟩ = some (pv p) ∧ W'.cell? ⟨lb, 1, none⟩ = some (.string (S nm))) := Lib.hid (fun W' G' ht => by
    have h1 := (ht.block lb (Array.getElem?_eq_some_iff.1 hl).1 hf).trans hl
    exact ⟨cells_blk ((ht.block ob (Array.getElem?_eq_some_iff.1 ho).1 hob).trans ho) 0 _ rfl, cells_blk h1 0 _ rfl, cells_blk h1 1 _ rfl⟩)
  have HK := Lib.hid (k_sync (h.below (Below.refl _ w).drew) hst nm hn)
  have HT := Lib.hid (Tr.of_below (Below.refl w.heap.size w).drew G)
  clear hl hf ho hob h
  go_enter Try.func61, Try.ntmps61
  go_wp2_with fail
  refine wp_region_noPanic ?_
  refine wp_region_held_drew (S := fun W => W.cell? ⟨ob, 0, none⟩ = some (pv lb) ∧ W.cell? ⟨lb, 0, none⟩ = some (pv p) ∧ W.cell? ⟨lb, 1, none⟩ = some (.string (S nm))) (by kernel_rfl) (SS.out _ _ (Tr.refl _ G)) (fun hHeld => ?_)
  refine held_take (i := 0) (v := ?_) rfl (by kernel_rfl) (by kernel_rfl) (by kernel_rfl) (fun _ _ _ h => h) (by rfl) hHeld ?y1_0 ?_
  case y1_0 => (intro w hSw; (try dsimp only at hSw); go_simp; try with_reducible rfl)
  try simp only [Act.put, List.setIfInBounds_toArray, List.set_cons_zero, List.set_cons_succ]
  refine held_take (i := 1) (v := ?_) rfl (by kernel_rfl) (by kernel_rfl) (by kernel_rfl) (fun _ _ _ h => h) (by rfl) hHeld ?y1_1 ?_
  case y1_1 => (intro w hSw; (try dsimp only at hSw); go_simp; try with_reducible rfl)
  try simp only [Act.put, List.setIfInBounds_toArray, List.set_cons_zero, List.set_cons_succ]
  refine held_take (i := 2) (v := ?_) rfl (by kernel_rfl) (by kernel_rfl) (by kernel_rfl) (fun _ _ _ h => h) (by rfl) hHeld ?y1_2 ?_
  case y1_2 => (intro w hSw; (try dsimp only at hSw); go_simp; try with_reducible rfl)
  try simp only [Act.put, List.setIfInBounds_toArray, List.set_cons_zero, List.set_cons_succ]
  refine held_take (i := 3) (v := ?_) rfl (by kernel_rfl) (by kernel_rfl) (by kernel_rfl) (fun _ _ _ h => h) (by rfl) hHeld ?y1_3 ?_
  case y1_3 => (intro w hSw; (try dsimp only at hSw); go_simp; try with_reducible rfl)
  try simp only [Act.put, List.setIfInBounds_toArray, List.set_cons_zero, List.set_cons_succ]
  refine held_take (i := 4) (v := ?_) rfl (by kernel_rfl) (by kernel_rfl) (by kernel_rfl) (fun _ _ _ h => h) (by rfl) hHeld ?y1_4 ?_
  case y1_4 => (intro w hSw; (try dsimp only at hSw); go_simp; try with_reducible rfl)
  try simp only [Act.put, List.setIfInBounds_toArray, List.set_cons_zero, List.set_cons_succ]
  refine held_take (i := 5) (v := ?_) rfl (by kernel_rfl) (by kernel_rfl) (by kernel_rfl) (fun _ _ _ h => h) (by rfl) hHeld ?y1_5 ?_
  case y1_5 => (intro w hSw; (try dsimp only at hSw); go_simp; try with_reducible rfl)
  try simp only [Act.put, List.setIfInBounds_toArray, List.set_cons_zero, List.set_cons_succ]
  refine held_take (i := 6) (v := ?_) rfl (by kernel_rfl) (by kernel_rfl) (by kernel_rfl) (fun _ _ _ h => h) (by rfl) hHeld ?y1_6 ?_
  case y1_6 => (intro w hSw; (try dsimp only at hSw); go_simp; try with_reducible rfl)
  try simp only [Act.put, List.setIfInBounds_toArray, List.set_cons_zero, List.set_cons_succ]
  refine held_take (i := 7) (v := ?_) rfl (by kernel_rfl) (by kernel_rfl) (by kernel_rfl) (fun _ _ _ h => h) (by rfl) hHeld ?y1_7 ?_
  case y1_7 => (intro w hSw; (try dsimp only at hSw); go_simp; try with_reducible rfl)
  try simp only [Act.put, List.setIfInBounds_toArray, List.set_cons_zero, List.set_cons_succ]
  refine held_one (i := 8) (by kernel_rfl) rfl (fun K hK => ?_)
  (refine step_call (by rfl) _ _ (by rfl) Try.func22 (by kernel_rfl) (by kernel_rfl) (by simp only [List.map_toArray, List.map_cons, List.map_nil]; rfl) (HK.out.mono ?_); rintro e W2 ⟨rfl, G2, hk2, ht2⟩; have hS8 := SS.out _ _ ht2; refine ⟨_, rfl, ?_⟩)
  refine hK.out _ _ ?_ (fun hHeld => ?_)
  · exact hS8
  clear hK K
  try simp only [Act.put, List.setIfInBounds_toArray, List.set_cons_zero, List.set_cons_succ]
  refine held_take (i := 9) (v := ?_) rfl (by kernel_rfl) (by kernel_rfl) (by kernel_rfl) (fun _ _ _ h => h) (by rfl) hHeld ?y1_9 ?_
  case y1_9 => (intro w hSw; (try dsimp only at hSw); go_simp; try with_reducible rfl)
  try simp only [Act.put, List.setIfInBounds_toArray, List.set_cons_zero, List.set_cons_succ]
  refine wpAnyH_done (by kernel_rfl) ?_ _
  refine NoPanic.normal ?_
  have HK2 := Lib.hid hk2
  have HT2 := Lib.hid (HT.out.trans ht2)
  clear hk2 ht2 hS8 HK HT SS hHeld
  go_wp2_with fail
  go_ret
  exact ⟨rfl, G2, HK2.out, HT2.out⟩

set_option maxRecDepth 100000 in
set_option maxHeartbeats 1000000 in
theorem fresh1 (h : Dk B p w0 G d w) (hst : d.steps < 1000000000) {lb ob : Nat} {nm : Nm} {ng : Int} {br : Bool} (hl : Lg w lb p nm ng br) (hf : ¬ G.has lb) (ho : w.heap[ob]? = some (.cells #[pv lb] 26)) (hob : ¬ G.has ob) (hn : nm.length ≤ 1000000) :
    Calls Try.prog 54 #[.pointer (some ⟨ob, 0, none⟩)] w fun e w' => e = .returned (.int .i64 (d.create nm).1) ∧ ∃ G', Dk B p w0 G' (d.create nm).2 w' ∧ Tr w G w' G' := by
  have SS : Hid (∀ W' G', Tr w.drew G W' G' → W'.cell? ⟨ob, 0, none⟩ = some (pv lb) ∧ W'.cell? ⟨lb, 0, none⟩ = some (pv p) ∧ W'.cell? ⟨lb, 1, none⟩ = some (.string (S nm))) := Lib.hid (fun W' G' ht => by
    have h1 := (ht.block lb (Array.getElem?_eq_some_iff.1 hl).1 hf).trans hl
    exact ⟨cells_blk ((ht.block ob (Array.getElem?_eq_some_iff.1 ho).1 hob).trans ho) 0 _ rfl, cells_blk h1 0 _ rfl, cells_blk h1 1 _ rfl⟩)
  have HK := Lib.hid (k_create (h.below (Below.refl _ w).drew) hst nm hn)
  have HT := Lib.hid (Tr.of_below (Below.refl w.heap.size w).drew G)
  clear hl hf ho hob h
  go_enter Try.func54, Try.ntmps54
  go_wp2_with fail
  refine wp_region_noPanic ?_
  refine wp_region_held_drew (S := fun W => W.cell? ⟨ob, 0, none⟩ = some (pv lb) ∧ W.cell? ⟨lb, 0, none⟩ = some (pv p) ∧ W.cell? ⟨lb, 1, none⟩ = some (.string (S nm))) (by kernel_rfl) (SS.out _ _ (Tr.refl _ G)) (fun hHeld => ?_)
  refine held_take (i := 0) (v := ?_) rfl (by kernel_rfl) (by kernel_rfl) (by kernel_rfl) (fun _ _ _ h => h) (by rfl) hHeld ?y1_0 ?_
  case y1_0 => (intro w hSw; (try dsimp only at hSw); go_simp; try with_reducible rfl)
  try simp only [Act.put, List.setIfInBounds_toArray, List.set_cons_zero, List.set_cons_succ]
  refine held_take (i := 1) (v := ?_) rfl (by kernel_rfl) (by kernel_rfl) (by kernel_rfl) (fun _ _ _ h => h) (by rfl) hHeld ?y1_1 ?_
  case y1_1 => (intro w hSw; (try dsimp only at hSw); go_simp; try with_reducible rfl)
  try simp only [Act.put, List.setIfInBounds_toArray, List.set_cons_zero, List.set_cons_succ]
  refine held_take (i := 2) (v := ?_) rfl (by kernel_rfl) (by kernel_rfl) (by kernel_rfl) (fun _ _ _ h => h) (by rfl) hHeld ?y1_2 ?_
  case y1_2 => (intro w hSw; (try dsimp only at hSw); go_simp; try with_reducible rfl)
  try simp only [Act.put, List.setIfInBounds_toArray, List.set_cons_zero, List.set_cons_succ]
  refine held_take (i := 3) (v := ?_) rfl (by kernel_rfl) (by kernel_rfl) (by kernel_rfl) (fun _ _ _ h => h) (by rfl) hHeld ?y1_3 ?_
  case y1_3 => (intro w hSw; (try dsimp only at hSw); go_simp; try with_reducible rfl)
  try simp only [Act.put, List.setIfInBounds_toArray, List.set_cons_zero, List.set_cons_succ]
  refine held_take (i := 4) (v := ?_) rfl (by kernel_rfl) (by kernel_rfl) (by kernel_rfl) (fun _ _ _ h => h) (by rfl) hHeld ?y1_4 ?_
  case y1_4 => (intro w hSw; (try dsimp only at hSw); go_simp; try with_reducible rfl)
  try simp only [Act.put, List.setIfInBounds_toArray, List.set_cons_zero, List.set_cons_succ]
  refine held_take (i := 5) (v := ?_) rfl (by kernel_rfl) (by kernel_rfl) (by kernel_rfl) (fun _ _ _ h => h) (by rfl) hHeld ?y1_5 ?_
  case y1_5 => (intro w hSw; (try dsimp only at hSw); go_simp; try with_reducible rfl)
  try simp only [Act.put, List.setIfInBounds_toArray, List.set_cons_zero, List.set_cons_succ]
  refine held_take (i := 6) (v := ?_) rfl (by kernel_rfl) (by kernel_rfl) (by kernel_rfl) (fun _ _ _ h => h) (by rfl) hHeld ?y1_6 ?_
  case y1_6 => (intro w hSw; (try dsimp only at hSw); go_simp; try with_reducible rfl)
  try simp only [Act.put, List.setIfInBounds_toArray, List.set_cons_zero, List.set_cons_succ]
  refine held_take (i := 7) (v := ?_) rfl (by kernel_rfl) (by kernel_rfl) (by kernel_rfl) (fun _ _ _ h => h) (by rfl) hHeld ?y1_7 ?_
  case y1_7 => (intro w hSw; (try dsimp only at hSw); go_simp; try with_reducible rfl)
  try simp only [Act.put, List.setIfInBounds_toArray, List.set_cons_zero, List.set_cons_succ]
  refine held_one (i := 8) (by kernel_rfl) rfl (fun K hK => ?_)
  (refine step_call (by rfl) _ _ (by rfl) Try.func20 (by kernel_rfl) (by kernel_rfl) (by simp only [List.map_toArray, List.map_cons, List.map_nil]; rfl) (HK.out.mono ?_); rintro e W2 ⟨rfl, G2, hk2, ht2⟩; have hS8 := SS.out _ _ ht2; refine ⟨_, rfl, ?_⟩)
  refine hK.out _ _ ?_ (fun hHeld => ?_)
  · exact hS8
  clear hK K
  try simp only [Act.put, List.setIfInBounds_toArray, List.set_cons_zero, List.set_cons_succ]
  refine held_take (i := 9) (v := ?_) rfl (by kernel_rfl) (by kernel_rfl) (by kernel_rfl) (fun _ _ _ h => h) (by rfl) hHeld ?y1_9 ?_
  case y1_9 => (intro w hSw; (try dsimp only at hSw); go_simp; try with_reducible rfl)
  try simp only [Act.put, List.setIfInBounds_toArray, List.set_cons_zero, List.set_cons_succ]
  refine wpAnyH_done (by kernel_rfl) ?_ _
  refine NoPanic.normal ?_
  have HK2 := Lib.hid hk2
  have HT2 := Lib.hid (HT.out.trans ht2)
  clear hk2 ht2 hS8 HK HT SS hHeld
  go_wp2_with fail
  go_ret
  exact ⟨rfl, G2, HK2.out, HT2.out⟩

theorem sync_steps (d : DS) (s : Nm) : (d.sync s).2.steps = d.steps + 1 ∧ (d.sync s).2.quota = d.quota := by
  unfold DS.sync
  simp only
  split <;> exact ⟨rfl, rfl⟩
theorem create_stepsq (d : DS) (s : Nm) : (d.create s).2.steps = d.steps + 1 ∧ (d.create s).2.quota = d.quota := by
  unfold DS.create
  simp only
  split
  · exact ⟨rfl, rfl⟩
  · split <;> exact ⟨rfl, rfl⟩
theorem syncDir_steps (d : DS) : (d.syncDir).2.steps = d.steps + 1 ∧ (d.syncDir).2.quota = d.quota := by
  unfold DS.syncDir
  simp only
  split <;> exact ⟨rfl, rfl⟩
theorem append_stepsq (d : DS) (s : Nm) (b : List Int) : (d.append s b).2.steps = d.steps + 1 ∧ (d.append s b).2.quota = d.quota := ⟨append_steps d s b, append_quota d s b⟩
theorem rename_steps (d : DS) (s t : Nm) : (d.rename s t).2.steps = d.steps + 1 ∧ (d.rename s t).2.quota = d.quota := by
  unfold DS.rename
  simp only
  split
  · exact ⟨rfl, rfl⟩
  · split <;> exact ⟨rfl, rfl⟩
theorem remove_steps (d : DS) (s : Nm) : (d.remove s).2.steps = d.steps + 1 ∧ (d.remove s).2.quota = d.quota := by
  unfold DS.remove
  simp only
  split <;> exact ⟨rfl, rfl⟩
/-- The file is kept, and its name. -/
def keepsW (nm : Nm) (d : DS) : Int × DS := runL [fun d => d.sync nm, DS.syncDir] d
theorem keepsW_steps (nm : Nm) (d : DS) : (keepsW nm d).2.steps ≤ d.steps + 2 ∧ (keepsW nm d).2.quota = d.quota := by
  obtain ⟨h1, h2⟩ := sync_steps d nm
  unfold keepsW
  simp only [runL]
  split
  · obtain ⟨h3, h4⟩ := syncDir_steps (d.sync nm).2
    split
    · exact ⟨by dsimp only; omega, by dsimp only; rw [h4, h2]⟩
    · exact ⟨by omega, by rw [h4, h2]⟩
  · exact ⟨by omega, h2⟩
/-- An empty file is made, and kept. -/
def freshW (nm : Nm) (d : DS) : Int × DS := runL [fun d => d.create nm, keepsW nm] d

set_option maxRecDepth 100000 in
set_option maxHeartbeats 1000000 in
theorem wal_keeps (h : Dk B p w0 G d w) (hst : d.steps + 15 < 1000000000) {lb : Nat} {nm : Nm} {ng : Int} {br : Bool} (hl : Lg w lb p nm ng br) (hf : ¬ G.has lb) (hn : nm.length ≤ 1000000) :
    Calls Try.prog 33 #[pv lb] w fun e w' => e = .returned (.int .i64 (keepsW nm d).1) ∧ ∃ G', Dk B p w0 G' (keepsW nm d).2 w' ∧ Tr w G w' G' := by
  have hB1 := (Below.refl w.heap.size w).alloc (Nat.le_refl _) (.cells #[pv lb] 26)
  have hB2 := hB1.alloc (by simp) (.cells #[.func (.func 61) #[] #[.pointer (some ⟨w.heap.size, 0, none⟩)], .func (.func 23) #[pv p] #[]] 35)
  have hl1 : Lg (w.alloc (.cells #[pv lb] 26)) lb p nm ng br := (hB1.block lb (Array.getElem?_eq_some_iff.1 hl).1).trans hl
  have l0 := cells_blk hl1 0 _ rfl
  have hT := Tr.of_below hB2 G
  obtain ⟨X, hX⟩ : ∃ X, (w.alloc (.cells #[pv lb] 26)).alloc (.cells #[.func (.func 61) #[] #[.pointer (some ⟨w.heap.size, 0, none⟩)], .func (.func 23) #[pv p] #[]] 35) = X := ⟨_, rfl⟩
  have hb0 : X.heap[w.heap.size]? = some (.cells #[pv lb] 26) := by
    rw [← hX]
    exact (Below.heap_alloc _ _ _ (by simp)).trans (alloc_new w _)
  have hb1 : X.heap[w.heap.size + 1]? = some (.cells #[.func (.func 61) #[] #[.pointer (some ⟨w.heap.size, 0, none⟩)], .func (.func 23) #[pv p] #[]] 35) := by
    rw [← hX]
    have := alloc_new (w.alloc (.cells #[pv lb] 26)) (.cells #[.func (.func 61) #[] #[.pointer (some ⟨w.heap.size, 0, none⟩)], .func (.func 23) #[pv p] #[]] 35)
    rwa [World.size_alloc] at this
  rw [hX] at hT hB2
  have hlX := hl.tr hf hT
  have hn0 : ¬ G.has w.heap.size := fun hh => by have := (h.at_.has_lt hh).2; omega
  have hn1 : ¬ G.has (w.heap.size + 1) := fun hh => by have := (h.at_.has_lt hh).2; omega
  have K := steps_disk (w.heap.size + 1) 2 (fun k => if k = 0 then 61 else 23) (fun k => if k = 0 then #[] else #[pv p]) (fun k => if k = 0 then #[.pointer (some ⟨w.heap.size, 0, none⟩)] else #[])
    [fun d => d.sync nm, DS.syncDir] rfl (by omega) 0 (h.below hB2) (by omega)
    (fun k hk => by
      match k, hk with
      | 0, _ => exact cells_blk hb1 0 _ rfl
      | 1, _ => exact cells_blk hb1 1 _ rfl)
    hn1 (Array.getElem?_eq_some_iff.1 hb1).1
    (fun k hk => by
      match k, hk with
      | 0, _ => exact enters_of Try.func61 (by kernel_rfl) rfl
      | 1, _ => exact enters_of Try.func23 (by kernel_rfl) rfl)
    (fun k f hf' G' dk W hd ht hs hq => by
      match k, hf' with
      | 0, hf' =>
        injection hf' with hf'
        subst hf'
        exact keeps1 hd (by omega) (hlX.1.tr hlX.2 ht).1 (hlX.1.tr hlX.2 ht).2 ((ht.block _ (Array.getElem?_eq_some_iff.1 hb0).1 hn0).trans hb0) (fun hh => hn0 (ht.foot _ (Array.getElem?_eq_some_iff.1 hb0).1 hh)) hn
      | 1, hf' =>
        injection hf' with hf'
        subst hf'
        exact k_syncDir hd (by omega)
      | k + 2, hf' => cases hf')
    (fun f hf' dk => by
      rcases List.mem_cons.1 hf' with rfl | hf'
      · exact ⟨by have := (sync_steps dk nm).1; dsimp only; omega, (sync_steps dk nm).2⟩
      · rcases List.mem_cons.1 hf' with rfl | hf'
        · exact ⟨by have := (syncDir_steps dk).1; omega, (syncDir_steps dk).2⟩
        · cases hf')
  have HK := Lib.hid K
  have HT := Lib.hid hT
  clear K hT hB1 hB2 hl hf h hlX hn0 hn1 hb0 hb1
  go_enter Try.func33, Try.ntmps33
  go_wp2_with fail
  refine HK.out.mono ?_
  rintro e W2 ⟨rfl, G2, hk2, ht2⟩
  have HK2 := Lib.hid hk2
  have HT2 := Lib.hid (HT.out.trans ht2)
  clear hk2 ht2 HK HT
  go_wp2_with fail
  go_ret
  exact ⟨rfl, G2, HK2.out, HT2.out⟩

set_option maxRecDepth 100000 in
set_option maxHeartbeats 1000000 in
theorem wal_fresh (h : Dk B p w0 G d w) (hst : d.steps + 30 < 1000000000) {lb : Nat} {nm : Nm} {ng : Int} {br : Bool} (hl : Lg w lb p nm ng br) (hf : ¬ G.has lb) (hn : nm.length ≤ 1000000) :
    Calls Try.prog 31 #[pv lb] w fun e w' => e = .returned (.int .i64 (freshW nm d).1) ∧ ∃ G', Dk B p w0 G' (freshW nm d).2 w' ∧ Tr w G w' G' := by
  have hB1 := (Below.refl w.heap.size w).alloc (Nat.le_refl _) (.cells #[pv lb] 26)
  have hB2 := hB1.alloc (by simp) (.cells #[.func (.func 54) #[] #[.pointer (some ⟨w.heap.size, 0, none⟩)], .func (.func 33) #[pv lb] #[]] 35)
  have hl1 : Lg (w.alloc (.cells #[pv lb] 26)) lb p nm ng br := (hB1.block lb (Array.getElem?_eq_some_iff.1 hl).1).trans hl
  have l0 := cells_blk hl1 0 _ rfl
  have hT := Tr.of_below hB2 G
  obtain ⟨X, hX⟩ : ∃ X, (w.alloc (.cells #[pv lb] 26)).alloc (.cells #[.func (.func 54) #[] #[.pointer (some ⟨w.heap.size, 0, none⟩)], .func (.func 33) #[pv lb] #[]] 35) = X := ⟨_, rfl⟩
  have hb0 : X.heap[w.heap.size]? = some (.cells #[pv lb] 26) := by
    rw [← hX]
    exact (Below.heap_alloc _ _ _ (by simp)).trans (alloc_new w _)
  have hb1 : X.heap[w.heap.size + 1]? = some (.cells #[.func (.func 54) #[] #[.pointer (some ⟨w.heap.size, 0, none⟩)], .func (.func 33) #[pv lb] #[]] 35) := by
    rw [← hX]
    have := alloc_new (w.alloc (.cells #[pv lb] 26)) (.cells #[.func (.func 54) #[] #[.pointer (some ⟨w.heap.size, 0, none⟩)], .func (.func 33) #[pv lb] #[]] 35)
    rwa [World.size_alloc] at this
  rw [hX] at hT hB2
  have hlX := hl.tr hf hT
  have hn0 : ¬ G.has w.heap.size := fun hh => by have := (h.at_.has_lt hh).2; omega
  have hn1 : ¬ G.has (w.heap.size + 1) := fun hh => by have := (h.at_.has_lt hh).2; omega
  have K := steps_disk (w.heap.size + 1) 2 (fun k => if k = 0 then 54 else 33) (fun k => if k = 0 then #[] else #[pv lb]) (fun k => if k = 0 then #[.pointer (some ⟨w.heap.size, 0, none⟩)] else #[])
    [fun d => d.create nm, keepsW nm] rfl (by omega) 15 (h.below hB2) (by omega)
    (fun k hk => by
      match k, hk with
      | 0, _ => exact cells_blk hb1 0 _ rfl
      | 1, _ => exact cells_blk hb1 1 _ rfl)
    hn1 (Array.getElem?_eq_some_iff.1 hb1).1
    (fun k hk => by
      match k, hk with
      | 0, _ => exact enters_of Try.func54 (by kernel_rfl) rfl
      | 1, _ => exact enters_of Try.func33 (by kernel_rfl) rfl)
    (fun k f hf' G' dk W hd ht hs hq => by
      match k, hf' with
      | 0, hf' =>
        injection hf' with hf'
        subst hf'
        exact fresh1 hd (by omega) (hlX.1.tr hlX.2 ht).1 (hlX.1.tr hlX.2 ht).2 ((ht.block _ (Array.getElem?_eq_some_iff.1 hb0).1 hn0).trans hb0) (fun hh => hn0 (ht.foot _ (Array.getElem?_eq_some_iff.1 hb0).1 hh)) hn
      | 1, hf' =>
        injection hf' with hf'
        subst hf'
        exact wal_keeps hd (by omega) (hlX.1.tr hlX.2 ht).1 (hlX.1.tr hlX.2 ht).2 hn
      | k + 2, hf' => cases hf')
    (fun f hf' dk => by
      rcases List.mem_cons.1 hf' with rfl | hf'
      · exact ⟨by have := (create_stepsq dk nm).1; dsimp only; omega, (create_stepsq dk nm).2⟩
      · rcases List.mem_cons.1 hf' with rfl | hf'
        · exact ⟨by have := (keepsW_steps nm dk).1; omega, (keepsW_steps nm dk).2⟩
        · cases hf')
  have HK := Lib.hid K
  have HT := Lib.hid hT
  clear K hT hB1 hB2 hl hf h hlX hn0 hn1 hb0 hb1
  go_enter Try.func31, Try.ntmps31
  go_wp2_with fail
  refine HK.out.mono ?_
  rintro e W2 ⟨rfl, G2, hk2, ht2⟩
  have HK2 := Lib.hid hk2
  have HT2 := Lib.hid (HT.out.trans ht2)
  clear hk2 ht2 HK HT
  go_wp2_with fail
  go_ret
  exact ⟨rfl, G2, HK2.out, HT2.out⟩
end Go.Proofs.Ytmdecbockpgagaa

/- package wal: Append, Clear, Len, Broken. -/
namespace Go.Proofs.Ytmdecbockpgagaa
open Go.RowKit Go.Maps Go.Proofs.YtmdecbockpgagaaW.PrintWords Go.Proofs.YtmdecbockpgagaaW.PrintMore
variable {B p : Nat} {w0 : World} {G : DG} {d : DS} {w w' : World}

/-- A row of records that is read, apart from a disk. -/
theorem RdR.tr {v : Value} {rs : List Rc} {G' : DG} (hv : RdR w v rs) (hf : Far G v) (t : Tr w G w' G') : RdR w' v rs ∧ Far G' v := by
  obtain ⟨A, c, rfl, hc, hm, hr⟩ := hv
  have key : ∀ a, A = some a → 0 < rs.length → a.block < w.heap.size ∧ ¬ G.has a.block := fun a ha h0 => by
    obtain ⟨a', ha', hx⟩ := hr h0
    rw [ha] at ha'
    cases ha'
    obtain ⟨h1, -, -⟩ := hx 0 _ (List.getElem?_eq_getElem h0)
    have h2 := World.block_lt_of_cell? w _ h1
    rw [add_block] at h2
    exact ⟨h2, hf a (rs.length - 1) c (by rw [ha, Nat.sub_add_cancel h0])⟩
  refine ⟨⟨A, c, rfl, hc, hm, fun h0 => ?_⟩, fun a n c2 he hh => ?_⟩
  · obtain ⟨a, rfl, hx⟩ := hr h0
    obtain ⟨k1, k2⟩ := key a rfl h0
    have hb := t.block a.block k1 k2
    refine ⟨a, rfl, fun j r hj => ?_⟩
    obtain ⟨h1, h2, h3⟩ := hx j r hj
    have hk : ∀ (ad : Addr) v, ad.block = a.block → w.cell? ad = some v → w'.cell? ad = some v := fun ad v he hv => (World.cell?_of_block (by rw [he]; exact hb)).trans hv
    exact ⟨hk _ _ (add_block _ _) h1, hk ⟨_, _, none⟩ _ (by show (a.add (j * 3)).block = _; exact add_block _ _) h2, hk ⟨_, _, none⟩ _ (by show (a.add (j * 3)).block = _; exact add_block _ _) h3⟩
  · injection he with e1 e2 e3
    obtain ⟨k1, k2⟩ := key a e1 (by omega)
    exact k2 (t.foot _ k1 hh)
theorem encG_by (rs : List Rc) : By (encG rs) := by
  unfold encG
  split
  · rename_i h
    refine fcat_by (fun l hl => ?_)
    unfold frG at hl
    rcases List.mem_append.1 hl with hl | hl
    · obtain ⟨r, hr, rfl⟩ := List.mem_map.1 hl
      exact rcB_by (rightB_ok (groupB_all h r hr))
    · rw [List.mem_singleton] at hl
      subst hl
      have := groupB_len h
      intro y hy
      rcases List.mem_cons.1 hy with h | h
      · omega
      · rw [List.mem_singleton] at h; omega
  · exact By.nil
set_option maxHeartbeats 1000000 in
theorem wal_breaks (lb : Nat) (nm : Nm) (ng : Int) (br : Bool) (er : Int) (w : World) (hl : Lg w lb p nm ng br) :
    Calls Try.prog 38 #[pv lb, .int .i64 er] w fun e w' => e = .returned (.int .i64 er) ∧ w' = (if er ≠ 0 ∧ er ≠ 201 then w.setCell ⟨lb, 3, none⟩ (.bool true) else w) := by
  have l3 : w.cell? ⟨lb, 3, none⟩ = some (.bool br) := cells_blk hl 3 _ rfl
  have z3 : w.frozen? ⟨lb, 3, none⟩ = false := by unfold World.frozen?; rw [show w.heap[lb]? = _ from hl]; simp
  clear hl
  obtain ⟨wf, hwf⟩ : ∃ wf, (if er ≠ 0 ∧ er ≠ 201 then w.setCell ⟨lb, 3, none⟩ (.bool true) else w) = wf := ⟨_, rfl⟩
  rw [hwf]
  have HW := Lib.hid hwf
  clear hwf
  by_cases h0 : er = 0
  · subst h0
    have HWF : Hid (w = wf) := Lib.hid (by rw [← HW.out]; exact (if_neg (by decide)).symm)
    go_enter Try.func38, Try.ntmps38
    go_wp2_with fail
    go_ret
    exact ⟨rfl, HWF.out⟩
  · have h0' : (er == 0) = false := by rw [beq_eq_false_iff_ne]; exact h0
    by_cases h1 : er = 201
    · subst h1
      have HWF : Hid (w = wf) := Lib.hid (by rw [← HW.out]; exact (if_neg (by decide)).symm)
      go_enter Try.func38, Try.ntmps38
      go_wp2_with fail
      go_ret
      exact ⟨rfl, HWF.out⟩
    · have h1' : (er != 201) = true := by rw [bne_iff_ne]; exact h1
      have h0n : (er != 0) = true := by rw [bne_iff_ne]; exact h0
      have HI : Hid (w.setCell ⟨lb, 3, none⟩ (.bool true) = wf) := Lib.hid (by rw [← HW.out]; exact (if_pos ⟨h0, h1⟩).symm)
      go_enter Try.func38, Try.ntmps38
      go_wp2_with fail
      go_ret
      exact ⟨rfl, HI.out⟩
theorem wal_len (lb : Nat) (nm : Nm) (ng : Int) (br : Bool) (w : World) (hl : Lg w lb p nm ng br) :
    Calls Try.prog 15 #[pv lb] w fun e w' => e = .returned (.int .i64 ng) ∧ w' = w := by
  have l2 : w.cell? ⟨lb, 2, none⟩ = some (.int .i64 ng) := cells_blk hl 2 _ rfl
  clear hl
  go_enter Try.func15, Try.ntmps15
  go_wp2_with fail
  go_ret
  exact ⟨rfl, rfl⟩
theorem wal_broken (lb : Nat) (nm : Nm) (ng : Int) (br : Bool) (w : World) (hl : Lg w lb p nm ng br) :
    Calls Try.prog 25 #[pv lb] w fun e w' => e = .returned (.bool br) ∧ w' = w := by
  have l3 : w.cell? ⟨lb, 3, none⟩ = some (.bool br) := cells_blk hl 3 _ rfl
  clear hl
  go_enter Try.func25, Try.ntmps25
  go_wp2_with fail
  go_ret
  exact ⟨rfl, rfl⟩

set_option maxRecDepth 100000 in
set_option maxHeartbeats 1000000 in
theorem append2 (h : Dk B p w0 G d w) (hst : d.steps < 1000000000) {lb ob : Nat} {nm : Nm} {ng : Int} {br : Bool} (hl : Lg w lb p nm ng br) (hf : ¬ G.has lb) (ho : w.heap[ob]? = some (.cells #[pv lb] 26)) (hob : ¬ G.has ob) (hn : nm.length ≤ 1000000) :
    Calls Try.prog 37 #[.pointer (some ⟨ob, 0, none⟩)] w fun e w' => e = .returned (.int .i64 (d.sync nm).1) ∧ ∃ G', Dk B p w0 G' (d.sync nm).2 w' ∧ Tr w G w' G' := by
  have SS : Hid (∀ W' G', Tr w.drew G W' G' → W'.cell? ⟨ob, 0, none⟩ = some (pv lb) ∧ W'.cell? ⟨lb, 0, none⟩ = some (pv p) ∧ W'.cell? ⟨lb, 1, none⟩ = some (.string (S nm))) := Lib.hid (fun W' G' ht => by
    have h1 := (ht.block lb (Array.getElem?_eq_some_iff.1 hl).1 hf).trans hl
    exact ⟨cells_blk ((ht.block ob (Array.getElem?_eq_some_iff.1 ho).1 hob).trans ho) 0 _ rfl, cells_blk h1 0 _ rfl, cells_blk h1 1 _ rfl⟩)
  have HK := Lib.hid (k_sync (h.below (Below.refl _ w).drew) hst nm hn)
  have HT := Lib.hid (Tr.of_below (Below.refl w.heap.size w).drew G)
  clear hl hf ho hob h
  go_enter Try.func37, Try.ntmps37
  go_wp2_with fail
  refine wp_region_noPanic ?_
  refine wp_region_held_drew (S := fun W => W.cell? ⟨ob, 0, none⟩ = some (pv lb) ∧ W.cell? ⟨lb, 0, none⟩ = some (pv p) ∧ W.cell? ⟨lb, 1, none⟩ = some (.string (S nm))) (by kernel_rfl) (SS.out _ _ (Tr.refl _ G)) (fun hHeld => ?_)
  refine held_take (i := 0) (v := ?_) rfl (by kernel_rfl) (by kernel_rfl) (by kernel_rfl) (fun _ _ _ h => h) (by rfl) hHeld ?y1_0 ?_
  case y1_0 => (intro w hSw; (try dsimp only at hSw); go_simp; try with_reducible rfl)
  try simp only [Act.put, List.setIfInBounds_toArray, List.set_cons_zero, List.set_cons_succ]
  refine held_take (i := 1) (v := ?_) rfl (by kernel_rfl) (by kernel_rfl) (by kernel_rfl) (fun _ _ _ h => h) (by rfl) hHeld ?y1_1 ?_
  case y1_1 => (intro w hSw; (try dsimp only at hSw); go_simp; try with_reducible rfl)
  try simp only [Act.put, List.setIfInBounds_toArray, List.set_cons_zero, List.set_cons_succ]
  refine held_take (i := 2) (v := ?_) rfl (by kernel_rfl) (by kernel_rfl) (by kernel_rfl) (fun _ _ _ h => h) (by rfl) hHeld ?y1_2 ?_
  case y1_2 => (intro w hSw; (try dsimp only at hSw); go_simp; try with_reducible rfl)
  try simp only [Act.put, List.setIfInBounds_toArray, List.set_cons_zero, List.set_cons_succ]
  refine held_take (i := 3) (v := ?_) rfl (by kernel_rfl) (by kernel_rfl) (by kernel_rfl) (fun _ _ _ h => h) (by rfl) hHeld ?y1_3 ?_
  case y1_3 => (intro w hSw; (try dsimp only at hSw); go_simp; try with_reducible rfl)
  try simp only [Act.put, List.setIfInBounds_toArray, List.set_cons_zero, List.set_cons_succ]
  refine held_take (i := 4) (v := ?_) rfl (by kernel_rfl) (by kernel_rfl) (by kernel_rfl) (fun _ _ _ h => h) (by rfl) hHeld ?y1_4 ?_
  case y1_4 => (intro w hSw; (try dsimp only at hSw); go_simp; try with_reducible rfl)
  try simp only [Act.put, List.setIfInBounds_toArray, List.set_cons_zero, List.set_cons_succ]
  refine held_take (i := 5) (v := ?_) rfl (by kernel_rfl) (by kernel_rfl) (by kernel_rfl) (fun _ _ _ h => h) (by rfl) hHeld ?y1_5 ?_
  case y1_5 => (intro w hSw; (try dsimp only at hSw); go_simp; try with_reducible rfl)
  try simp only [Act.put, List.setIfInBounds_toArray, List.set_cons_zero, List.set_cons_succ]
  refine held_take (i := 6) (v := ?_) rfl (by kernel_rfl) (by kernel_rfl) (by kernel_rfl) (fun _ _ _ h => h) (by rfl) hHeld ?y1_6 ?_
  case y1_6 => (intro w hSw; (try dsimp only at hSw); go_simp; try with_reducible rfl)
  try simp only [Act.put, List.setIfInBounds_toArray, List.set_cons_zero, List.set_cons_succ]
  refine held_take (i := 7) (v := ?_) rfl (by kernel_rfl) (by kernel_rfl) (by kernel_rfl) (fun _ _ _ h => h) (by rfl) hHeld ?y1_7 ?_
  case y1_7 => (intro w hSw; (try dsimp only at hSw); go_simp; try with_reducible rfl)
  try simp only [Act.put, List.setIfInBounds_toArray, List.set_cons_zero, List.set_cons_succ]
  refine held_one (i := 8) (by kernel_rfl) rfl (fun K hK => ?_)
  (refine step_call (by rfl) _ _ (by rfl) Try.func22 (by kernel_rfl) (by kernel_rfl) (by simp only [List.map_toArray, List.map_cons, List.map_nil]; rfl) (HK.out.mono ?_); rintro e W2 ⟨rfl, G2, hk2, ht2⟩; have hS8 := SS.out _ _ ht2; refine ⟨_, rfl, ?_⟩)
  refine hK.out _ _ ?_ (fun hHeld => ?_)
  · exact hS8
  clear hK K
  try simp only [Act.put, List.setIfInBounds_toArray, List.set_cons_zero, List.set_cons_succ]
  refine held_take (i := 9) (v := ?_) rfl (by kernel_rfl) (by kernel_rfl) (by kernel_rfl) (fun _ _ _ h => h) (by rfl) hHeld ?y1_9 ?_
  case y1_9 => (intro w hSw; (try dsimp only at hSw); go_simp; try with_reducible rfl)
  try simp only [Act.put, List.setIfInBounds_toArray, List.set_cons_zero, List.set_cons_succ]
  refine wpAnyH_done (by kernel_rfl) ?_ _
  refine NoPanic.normal ?_
  have HK2 := Lib.hid hk2
  have HT2 := Lib.hid (HT.out.trans ht2)
  clear hk2 ht2 hS8 HK HT SS hHeld
  go_wp2_with fail
  go_ret
  exact ⟨rfl, G2, HK2.out, HT2.out⟩

set_option maxRecDepth 100000 in
set_option maxHeartbeats 1000000 in
theorem append1 (h : Dk B p w0 G d w) (hst : d.steps < 1000000000) {lb ob xb : Nat} {nm : Nm} {ng : Int} {br : Bool} {v : Value} {rs : List Rc} (hl : Lg w lb p nm ng br) (hf : ¬ G.has lb) (ho : w.heap[ob]? = some (.cells #[pv lb] 26)) (hob : ¬ G.has ob) (hn : nm.length ≤ 1000000)
    (hx : w.heap[xb]? = some (.cells #[v] 32)) (hxb : ¬ G.has xb) (hr : RdR w v rs) (hq : -9223372036854775808 ≤ d.quota ∧ d.quota < 9223372036854775808) :
    Calls Try.prog 36 #[.pointer (some ⟨ob, 0, none⟩), .pointer (some ⟨xb, 0, none⟩)] w fun e w' => e = .returned (.int .i64 (d.append nm (encG rs)).1) ∧ ∃ G', Dk B p w0 G' (d.append nm (encG rs)).2 w' ∧ Tr w G w' G' := by
  have SS : Hid (∀ W' G', Tr w.drew G W' G' → W'.cell? ⟨ob, 0, none⟩ = some (pv lb) ∧ W'.cell? ⟨lb, 0, none⟩ = some (pv p) ∧ W'.cell? ⟨lb, 1, none⟩ = some (.string (S nm)) ∧ W'.cell? ⟨xb, 0, none⟩ = some v) := Lib.hid (fun W' G' ht => by
    have h1 := (ht.block lb (Array.getElem?_eq_some_iff.1 hl).1 hf).trans hl
    exact ⟨cells_blk ((ht.block ob (Array.getElem?_eq_some_iff.1 ho).1 hob).trans ho) 0 _ rfl, cells_blk h1 0 _ rfl, cells_blk h1 1 _ rfl, cells_blk ((ht.block xb (Array.getElem?_eq_some_iff.1 hx).1 hxb).trans hx) 0 _ rfl⟩)
  have hd := h.below (Below.refl _ w).drew
  have KA : Hid (∀ v1 W1, OwnB W1 w.drew.heap.size v1 (encG rs) → Below w.drew.heap.size w.drew W1 → Calls Try.prog 21 #[pv p, .string (S nm), v1] W1 fun e w' => e = .returned (.int .i64 (d.append nm (encG rs)).1) ∧ ∃ G', Dk B p w0 G' (d.append nm (encG rs)).2 w' ∧ Tr W1 G w' G') := Lib.hid (fun v1 W1 ho1 hb1 =>
    k_append (hd.below hb1) hst nm hn (encG rs) (encG_by rs) v1 ho1.rd (Far.own (Apart.new hd.at_ (Nat.le_refl _) ho1)) hq)
  have HRD := Lib.hid (hr.below (Below.refl _ w).drew)
  have HT := Lib.hid (Tr.of_below (Below.refl w.heap.size w).drew G)
  clear hl hf ho hob h hx hxb hr hd
  go_enter Try.func36, Try.ntmps36
  go_wp2_with fail
  refine wp_region_noPanic ?_
  refine wp_region_held_drew (S := fun W => W.cell? ⟨ob, 0, none⟩ = some (pv lb) ∧ W.cell? ⟨lb, 0, none⟩ = some (pv p) ∧ W.cell? ⟨lb, 1, none⟩ = some (.string (S nm)) ∧ W.cell? ⟨xb, 0, none⟩ = some v) (by kernel_rfl) (SS.out _ _ (Tr.refl _ G)) (fun hHeld => ?_)
  refine held_take (i := 0) (v := ?_) rfl (by kernel_rfl) (by kernel_rfl) (by kernel_rfl) (fun _ _ _ h => h) (by rfl) hHeld ?y1_0 ?_
  case y1_0 => (intro w hSw; (try dsimp only at hSw); go_simp; try with_reducible rfl)
  try simp only [Act.put, List.setIfInBounds_toArray, List.set_cons_zero, List.set_cons_succ]
  refine held_take (i := 1) (v := ?_) rfl (by kernel_rfl) (by kernel_rfl) (by kernel_rfl) (fun _ _ _ h => h) (by rfl) hHeld ?y1_1 ?_
  case y1_1 => (intro w hSw; (try dsimp only at hSw); go_simp; try with_reducible rfl)
  try simp only [Act.put, List.setIfInBounds_toArray, List.set_cons_zero, List.set_cons_succ]
  refine held_take (i := 2) (v := ?_) rfl (by kernel_rfl) (by kernel_rfl) (by kernel_rfl) (fun _ _ _ h => h) (by rfl) hHeld ?y1_2 ?_
  case y1_2 => (intro w hSw; (try dsimp only at hSw); go_simp; try with_reducible rfl)
  try simp only [Act.put, List.setIfInBounds_toArray, List.set_cons_zero, List.set_cons_succ]
  refine held_take (i := 3) (v := ?_) rfl (by kernel_rfl) (by kernel_rfl) (by kernel_rfl) (fun _ _ _ h => h) (by rfl) hHeld ?y1_3 ?_
  case y1_3 => (intro w hSw; (try dsimp only at hSw); go_simp; try with_reducible rfl)
  try simp only [Act.put, List.setIfInBounds_toArray, List.set_cons_zero, List.set_cons_succ]
  refine held_take (i := 4) (v := ?_) rfl (by kernel_rfl) (by kernel_rfl) (by kernel_rfl) (fun _ _ _ h => h) (by rfl) hHeld ?y1_4 ?_
  case y1_4 => (intro w hSw; (try dsimp only at hSw); go_simp; try with_reducible rfl)
  try simp only [Act.put, List.setIfInBounds_toArray, List.set_cons_zero, List.set_cons_succ]
  refine held_take (i := 5) (v := ?_) rfl (by kernel_rfl) (by kernel_rfl) (by kernel_rfl) (fun _ _ _ h => h) (by rfl) hHeld ?y1_5 ?_
  case y1_5 => (intro w hSw; (try dsimp only at hSw); go_simp; try with_reducible rfl)
  try simp only [Act.put, List.setIfInBounds_toArray, List.set_cons_zero, List.set_cons_succ]
  refine held_take (i := 6) (v := ?_) rfl (by kernel_rfl) (by kernel_rfl) (by kernel_rfl) (fun _ _ _ h => h) (by rfl) hHeld ?y1_6 ?_
  case y1_6 => (intro w hSw; (try dsimp only at hSw); go_simp; try with_reducible rfl)
  try simp only [Act.put, List.setIfInBounds_toArray, List.set_cons_zero, List.set_cons_succ]
  refine held_take (i := 7) (v := ?_) rfl (by kernel_rfl) (by kernel_rfl) (by kernel_rfl) (fun _ _ _ h => h) (by rfl) hHeld ?y1_7 ?_
  case y1_7 => (intro w hSw; (try dsimp only at hSw); go_simp; try with_reducible rfl)
  try simp only [Act.put, List.setIfInBounds_toArray, List.set_cons_zero, List.set_cons_succ]
  refine held_take (i := 8) (v := ?_) rfl (by kernel_rfl) (by kernel_rfl) (by kernel_rfl) (fun _ _ _ h => h) (by rfl) hHeld ?y1_8 ?_
  case y1_8 => (intro w hSw; (try dsimp only at hSw); go_simp; try with_reducible rfl)
  try simp only [Act.put, List.setIfInBounds_toArray, List.set_cons_zero, List.set_cons_succ]
  refine held_one (i := 9) (by kernel_rfl) rfl (fun K hK => ?_)
  (refine step_call (by rfl) _ _ (by rfl) Try.func26 (by kernel_rfl) (by kernel_rfl) (by simp only [List.map_toArray, List.map_cons, List.map_nil]; rfl) ((wal_encode v rs _ HRD.out).mono ?_); rintro e W1 ⟨v1, rfl, ho1, hb1⟩; have hS9 := SS.out _ _ (Tr.of_below hb1 G); have HKA := Lib.hid (KA.out _ _ ho1 hb1); refine ⟨_, rfl, ?_⟩)
  refine hK.out _ _ ?_ (fun hHeld => ?_)
  · exact hS9
  clear hK K
  try simp only [Act.put, List.setIfInBounds_toArray, List.set_cons_zero, List.set_cons_succ]
  refine held_one (i := 10) (by kernel_rfl) rfl (fun K hK => ?_)
  (refine step_call (by rfl) _ _ (by rfl) Try.func21 (by kernel_rfl) (by kernel_rfl) (by simp only [List.map_toArray, List.map_cons, List.map_nil]; rfl) (HKA.out.mono ?_); rintro e W2 ⟨rfl, G2, hk2, ht2⟩; have ht3 := (Tr.of_below hb1 G).trans ht2; have hS10 := SS.out _ _ ht3; refine ⟨_, rfl, ?_⟩)
  refine hK.out _ _ ?_ (fun hHeld => ?_)
  · exact hS10
  clear hK K
  try simp only [Act.put, List.setIfInBounds_toArray, List.set_cons_zero, List.set_cons_succ]
  refine held_take (i := 11) (v := ?_) rfl (by kernel_rfl) (by kernel_rfl) (by kernel_rfl) (fun _ _ _ h => h) (by rfl) hHeld ?y1_11 ?_
  case y1_11 => (intro w hSw; (try dsimp only at hSw); go_simp; try with_reducible rfl)
  try simp only [Act.put, List.setIfInBounds_toArray, List.set_cons_zero, List.set_cons_succ]
  refine wpAnyH_done (by kernel_rfl) ?_ _
  refine NoPanic.normal ?_
  have HK2 := Lib.hid hk2
  have HT2 := Lib.hid (HT.out.trans ht3)
  clear hk2 ht2 ht3 hS10 HT SS hHeld KA HKA ho1 hb1 hS9
  go_wp2_with fail
  go_ret
  exact ⟨rfl, G2, HK2.out, HT2.out⟩
end Go.Proofs.Ytmdecbockpgagaa

/- package wal: Append, Clear. -/
namespace Go.Proofs.Ytmdecbockpgagaa
open Go.RowKit Go.Maps Go.Proofs.YtmdecbockpgagaaW.PrintWords Go.Proofs.YtmdecbockpgagaaW.PrintMore
variable {B p lb : Nat} {w0 : World} {G : DG} {d : DS} {w w' : World} {nm : Nm} {ng : Int} {br : Bool}

/-- A log and its disk, as they lie in a walk that began at w0. -/
structure Ls (B p lb : Nat) (w0 : World) (G : DG) (d : DS) (nm : Nm) (ng : Int) (br : Bool) (w : World) : Prop where
  dk : Dk B p w0 G d w
  lg : Lg w lb p nm ng br
  far : ¬ G.has lb
  lo : B ≤ lb
/-- What a call of the log's turns. -/
structure LT (lb : Nat) (w : World) (G : DG) (w' : World) (G' : DG) : Prop where
  os : w'.os = w.os
  tape : w'.tape = w.tape
  output : w'.output = w.output
  size : w.heap.size ≤ w'.heap.size
  block : ∀ k, k < w.heap.size → ¬ G.has k → k ≠ lb → w'.heap[k]? = w.heap[k]?
  foot : ∀ k, k < w.heap.size → G'.has k → G.has k
theorem LT.of_tr {G' : DG} (t : Tr w G w' G') : LT lb w G w' G' := ⟨t.os, t.tape, t.output, t.size, fun k hk hn _ => t.block k hk hn, t.foot⟩
theorem LT.set (w : World) (G : DG) (j : Nat) (v : Value) : LT lb w G (w.setCell ⟨lb, j, none⟩ v) G :=
  ⟨rfl, rfl, rfl, (KeepsWalks.setCell w _ v).size, fun k _ _ hne => Below.heap_setCell w ⟨lb, j, none⟩ v k hne, fun _ _ h => h⟩
theorem LT.trans {w1 w2 w3 : World} {G1 G2 G3 : DG} (h : LT lb w1 G1 w2 G2) (k : LT lb w2 G2 w3 G3) : LT lb w1 G1 w3 G3 :=
  ⟨k.os.trans h.os, k.tape.trans h.tape, k.output.trans h.output, Nat.le_trans h.size k.size,
   fun i hi hn hl => (k.block i (Nat.lt_of_lt_of_le hi h.size) (fun hh => hn (h.foot i hi hh)) hl).trans (h.block i hi hn hl),
   fun i hi hh => h.foot i hi (k.foot i (Nat.lt_of_lt_of_le hi h.size) hh)⟩
theorem Dk.set (h : Dk B p w0 G d w) (hf : ¬ G.has lb) (hlo : B ≤ lb) (j : Nat) (v : Value) : Dk B p w0 G d (w.setCell ⟨lb, j, none⟩ v) :=
  ⟨h.at_.keep (fun k hk => Below.heap_setCell w ⟨lb, j, none⟩ v k (fun e => hf (by rw [← show k = lb from e]; exact hk))), h.ok, h.gp, h.bel.setCell (p := ⟨lb, j, none⟩) hlo v⟩
theorem Ls.groups (h : Ls B p lb w0 G d nm ng br w) (n : Int) : Ls B p lb w0 G d nm n br (w.setCell ⟨lb, 2, none⟩ (.int .i64 n)) :=
  ⟨h.dk.set h.far h.lo 2 _, by
    have := h.lg
    unfold Lg at this ⊢
    unfold World.setCell
    simp only [Array.getElem?_modify, if_pos, this]
    rfl, h.far, h.lo⟩
theorem Ls.breaks (h : Ls B p lb w0 G d nm ng br w) : Ls B p lb w0 G d nm ng true (w.setCell ⟨lb, 3, none⟩ (.bool true)) :=
  ⟨h.dk.set h.far h.lo 3 _, by
    have := h.lg
    unfold Lg at this ⊢
    unfold World.setCell
    simp only [Array.getElem?_modify, if_pos, this]
    rfl, h.far, h.lo⟩
theorem Ls.tr {G' : DG} {d' : DS} (h : Ls B p lb w0 G d nm ng br w) (hd : Dk B p w0 G' d' w') (ht : Tr w G w' G') : Ls B p lb w0 G' d' nm ng br w' :=
  ⟨hd, (h.lg.tr h.far ht).1, (h.lg.tr h.far ht).2, h.lo⟩
theorem Ls.below (h : Ls B p lb w0 G d nm ng br w) (hb : Below w.heap.size w w') : Ls B p lb w0 G d nm ng br w' := h.tr (h.dk.below hb) (Tr.of_below hb G)
/-- A group is laid behind the others, and kept. -/
def appW (nm : Nm) (rs : List Rc) (d : DS) : Int × DS := runL [fun d => d.append nm (encG rs), fun d => d.sync nm] d
def ngOf (er ng n : Int) : Int := if er = 0 then n else ng
def brOf (er : Int) (br : Bool) : Bool := if er ≠ 0 ∧ er ≠ 201 then true else br
theorem Ls.ends (h : Ls B p lb w0 G d nm ng br w) {er : Int} (hw : w' = (if er ≠ 0 ∧ er ≠ 201 then w.setCell ⟨lb, 3, none⟩ (.bool true) else w)) :
    Ls B p lb w0 G d nm ng (brOf er br) w' ∧ LT lb w G w' G := by
  unfold brOf
  by_cases he : er ≠ 0 ∧ er ≠ 201
  · rw [if_pos he] at hw ⊢
    subst hw
    exact ⟨h.breaks, LT.set w G 3 _⟩
  · rw [if_neg he] at hw ⊢
    subst hw
    exact ⟨h, LT.of_tr (Tr.refl w' G)⟩
theorem wal_clear_no (h : Ls B p lb w0 G d nm ng true w) : Calls Try.prog 16 #[pv lb] w fun e w' => e = .returned (.int .i64 220) ∧ w' = w := by
  have l3 : w.cell? ⟨lb, 3, none⟩ = some (.bool true) := cells_blk h.lg 3 _ rfl
  clear h
  go_enter Try.func16, Try.ntmps16
  go_wp2_with fail
  go_ret
  exact ⟨rfl, rfl⟩
set_option maxRecDepth 100000 in
set_option maxHeartbeats 2000000 in
theorem wal_clear (h : Ls B p lb w0 G d nm ng false w) (hst : d.steps + 30 < 1000000000) (hn : nm.length ≤ 1000000) :
    Calls Try.prog 16 #[pv lb] w fun e w' => e = .returned (.int .i64 (freshW nm d).1) ∧ ∃ G', Ls B p lb w0 G' (freshW nm d).2 nm (ngOf (freshW nm d).1 ng 0) (brOf (freshW nm d).1 false) w' ∧ LT lb w G w' G' := by
  have l3 : w.cell? ⟨lb, 3, none⟩ = some (.bool false) := cells_blk h.lg 3 _ rfl
  have HH := Lib.hid h
  have KF := Lib.hid (wal_fresh h.dk hst h.lg h.far hn)
  obtain ⟨r, hr⟩ : ∃ r, freshW nm d = r := ⟨_, rfl⟩
  rw [hr] at KF ⊢
  clear h hr
  go_enter Try.func16, Try.ntmps16
  go_wp2_with fail
  refine KF.out.mono ?_
  rintro e w1 ⟨rfl, G1, hd, ht⟩
  have HL := Lib.hid (HH.out.tr hd ht)
  have HT := Lib.hid (LT.of_tr (lb := lb) ht)
  clear hd ht KF l3
  obtain ⟨er, d1⟩ := r
  by_cases he : er = 0
  · subst he
    have l2 : w1.cell? ⟨lb, 2, none⟩ = some (.int .i64 ng) := cells_blk HL.out.lg 2 _ rfl
    have z2 : w1.frozen? ⟨lb, 2, none⟩ = false := by unfold World.frozen?; rw [show w1.heap[lb]? = _ from HL.out.lg]; simp
    have HL2 := Lib.hid (HL.out.groups 0)
    have HT2 := Lib.hid (HT.out.trans (LT.set w1 G1 2 (.int .i64 0)))
    have KB := Lib.hid (wal_breaks lb nm 0 false 0 _ HL2.out.lg)
    clear HL HT
    go_wp2_with fail
    refine KB.out.mono ?_
    rintro e w3 ⟨rfl, hw⟩
    obtain ⟨h1, h2⟩ := HL2.out.ends hw
    have H1 := Lib.hid h1
    have H2 := Lib.hid (HT2.out.trans h2)
    clear h1 h2 hw KB l2 z2
    go_wp2_with fail
    go_ret
    exact ⟨rfl, G1, H1.out, H2.out⟩
  · have he' : (er == 0) = false := by rw [beq_eq_false_iff_ne]; exact he
    have KB := Lib.hid (wal_breaks lb nm ng false er _ HL.out.lg)
    have HNG : Hid (ngOf er ng 0 = ng) := Lib.hid (if_neg he)
    go_wp2_with fail
    refine KB.out.mono ?_
    rintro e w3 ⟨rfl, hw⟩
    obtain ⟨h1, h2⟩ := HL.out.ends hw
    have H1 := Lib.hid h1
    have H2 := Lib.hid (HT.out.trans h2)
    clear h1 h2 hw KB
    go_wp2_with fail
    go_ret
    exact ⟨rfl, G1, by rw [HNG.out]; exact H1.out, H2.out⟩
theorem wal_append_broken (h : Ls B p lb w0 G d nm ng true w) (A : Option Addr) (m c : Nat) : Calls Try.prog 13 #[pv lb, .slice A m c] w fun e w' => e = .returned (.int .i64 220) ∧ Below w.heap.size w w' := by
  have hB1 := (Below.refl w.heap.size w).alloc (Nat.le_refl _) (.cells #[pv lb] 26)
  have hB2 := hB1.alloc (by simp) (.cells #[.slice A m c] 32)
  have l3 : ((w.alloc (.cells #[pv lb] 26)).alloc (.cells #[.slice A m c] 32)).cell? ⟨lb, 3, none⟩ = some (.bool true) := pw_cell_below hB2 (cells_blk h.lg 3 _ rfl)
  have HB := Lib.hid hB2
  clear h hB1 hB2
  go_enter Try.func13, Try.ntmps13
  go_wp2_with fail
  go_ret
  exact ⟨rfl, HB.out⟩
theorem wal_append_no (h : Ls B p lb w0 G d nm ng false w) {v : Value} {rs : List Rc} (hr : RdR w v rs) (hg : groupB rs = false) : Calls Try.prog 13 #[pv lb, v] w fun e w' => e = .returned (.int .i64 220) ∧ Below w.heap.size w w' := by
  have hr0 := hr
  obtain ⟨A, c, rfl, -, -, -⟩ := hr0
  have hB1 := (Below.refl w.heap.size w).alloc (Nat.le_refl _) (.cells #[pv lb] 26)
  have hB2 := hB1.alloc (by simp) (.cells #[.slice A rs.length c] 32)
  have l3 : ((w.alloc (.cells #[pv lb] 26)).alloc (.cells #[.slice A rs.length c] 32)).cell? ⟨lb, 3, none⟩ = some (.bool false) := pw_cell_below hB2 (cells_blk h.lg 3 _ rfl)
  have KG := Lib.hid (wal_group (.slice A rs.length c) rs _ (hr.below hB2))
  rw [hg] at KG
  have HB := Lib.hid hB2
  clear h hB1 hB2 hr hg
  go_enter Try.func13, Try.ntmps13
  go_wp2_with fail
  refine KG.out.mono ?_
  rintro e w1 ⟨rfl, hb⟩
  have HB1 := Lib.hid (HB.out.trans (hb.mono HB.out.size))
  clear hb KG l3
  go_wp2_with fail
  go_ret
  exact ⟨rfl, HB1.out⟩
set_option maxRecDepth 100000 in
set_option maxHeartbeats 2000000 in
theorem wal_append (h : Ls B p lb w0 G d nm ng false w) (hst : d.steps + 15 < 1000000000) (hn : nm.length ≤ 1000000) {v : Value} {rs : List Rc} (hr : RdR w v rs) (hfr : Far G v) (hg : groupB rs = true) (hq : -9223372036854775808 ≤ d.quota ∧ d.quota < 9223372036854775808) (hng : 0 ≤ ng ∧ ng < 1000000000) :
    Calls Try.prog 13 #[pv lb, v] w fun e w' => e = .returned (.int .i64 (appW nm rs d).1) ∧ ∃ G', Ls B p lb w0 G' (appW nm rs d).2 nm (ngOf (appW nm rs d).1 ng (ng + 1)) (brOf (appW nm rs d).1 false) w' ∧ LT lb w G w' G' := by
  have hlbs : lb < w.heap.size := (Array.getElem?_eq_some_iff.1 h.lg).1
  have hr0 := hr
  obtain ⟨A, c, rfl, -, -, -⟩ := hr0
  have hB1 := (Below.refl w.heap.size w).alloc (Nat.le_refl _) (.cells #[pv lb] 26)
  have hB2 := hB1.alloc (by simp) (.cells #[.slice A rs.length c] 32)
  have l3 : ((w.alloc (.cells #[pv lb] 26)).alloc (.cells #[.slice A rs.length c] 32)).cell? ⟨lb, 3, none⟩ = some (.bool false) := pw_cell_below hB2 (cells_blk h.lg 3 _ rfl)
  have KG := Lib.hid (wal_group (.slice A rs.length c) rs _ (hr.below hB2))
  rw [hg] at KG
  have hob : ((w.alloc (.cells #[pv lb] 26)).alloc (.cells #[.slice A rs.length c] 32)).heap[w.heap.size]? = some (.cells #[pv lb] 26) := (Below.heap_alloc _ _ _ (by simp)).trans (alloc_new w _)
  have hxb : ((w.alloc (.cells #[pv lb] 26)).alloc (.cells #[.slice A rs.length c] 32)).heap[w.heap.size + 1]? = some (.cells #[.slice A rs.length c] 32) := by
    have := alloc_new (w.alloc (.cells #[pv lb] 26)) (.cells #[.slice A rs.length c] 32)
    rwa [World.size_alloc] at this
  have hn0 : ¬ G.has w.heap.size := fun hh => by have := (h.dk.at_.has_lt hh).2; omega
  have hn1 : ¬ G.has (w.heap.size + 1) := fun hh => by have := (h.dk.at_.has_lt hh).2; omega
  have hs2 : ((w.alloc (.cells #[pv lb] 26)).alloc (.cells #[.slice A rs.length c] 32)).heap.size = w.heap.size + 2 := by simp
  have KS : Hid (∀ W : World, Below ((w.alloc (.cells #[pv lb] 26)).alloc (.cells #[.slice A rs.length c] 32)).heap.size ((w.alloc (.cells #[pv lb] 26)).alloc (.cells #[.slice A rs.length c] 32)) W →
      Calls Try.prog 35 #[.slice (some ⟨W.heap.size, 0, none⟩) 2 2] (W.alloc (.cells #[.func (.func 36) #[] #[.pointer (some ⟨w.heap.size, 0, none⟩), .pointer (some ⟨w.heap.size + 1, 0, none⟩)], .func (.func 37) #[] #[.pointer (some ⟨w.heap.size, 0, none⟩)]] 35))
        fun e w' => e = .returned (.int .i64 (appW nm rs d).1) ∧ ∃ G', Ls B p lb w0 G' (appW nm rs d).2 nm ng false w' ∧ Tr w G w' G' ∧ w'.cell? ⟨w.heap.size, 0, none⟩ = some (pv lb)) := Lib.hid (fun W hbW => by
    have hbX := hbW.alloc (hbW.size) (.cells #[.func (.func 36) #[] #[.pointer (some ⟨w.heap.size, 0, none⟩), .pointer (some ⟨w.heap.size + 1, 0, none⟩)], .func (.func 37) #[] #[.pointer (some ⟨w.heap.size, 0, none⟩)]] 35)
    have hnew := alloc_new W (.cells #[.func (.func 36) #[] #[.pointer (some ⟨w.heap.size, 0, none⟩), .pointer (some ⟨w.heap.size + 1, 0, none⟩)], .func (.func 37) #[] #[.pointer (some ⟨w.heap.size, 0, none⟩)]] 35)
    have hwX := hB2.trans (hbX.mono hB2.size)
    have hgs := hbW.size
    have hobX := (hbX.block _ (by omega)).trans hob
    have hxbX := (hbX.block _ (by omega)).trans hxb
    have hTX := Tr.of_below hwX G
    have hlsX := h.below hwX
    have hrX := hr.below hwX
    refine (steps_disk W.heap.size 2 (fun k => if k = 0 then 36 else 37) (fun k => #[]) (fun k => if k = 0 then #[.pointer (some ⟨w.heap.size, 0, none⟩), .pointer (some ⟨w.heap.size + 1, 0, none⟩)] else #[.pointer (some ⟨w.heap.size, 0, none⟩)])
      [fun d => d.append nm (encG rs), fun d => d.sync nm] rfl (by omega) 0 hlsX.dk (by omega)
      (fun k hk => by
        match k, hk with
        | 0, _ => exact cells_blk hnew 0 _ rfl
        | 1, _ => exact cells_blk hnew 1 _ rfl)
      (fun hh => by have := (h.dk.at_.has_lt hh).2; omega) (Array.getElem?_eq_some_iff.1 hnew).1
      (fun k hk => by
        match k, hk with
        | 0, _ => exact enters_of Try.func36 (by kernel_rfl) rfl
        | 1, _ => exact enters_of Try.func37 (by kernel_rfl) rfl)
      (fun k f hf' G' dk W2 hd ht hs hq2 => by
        have hls2 := hlsX.tr hd ht
        have ho2 := (ht.block _ (Array.getElem?_eq_some_iff.1 hobX).1 hn0).trans hobX
        have hnn0 : ¬ G'.has w.heap.size := fun hh => hn0 (ht.foot _ (Array.getElem?_eq_some_iff.1 hobX).1 hh)
        match k, hf' with
        | 0, hf' =>
          injection hf' with hf'
          subst hf'
          exact append1 hd (by omega) hls2.lg hls2.far ho2 hnn0 hn ((ht.block _ (Array.getElem?_eq_some_iff.1 hxbX).1 hn1).trans hxbX) (fun hh => hn1 (ht.foot _ (Array.getElem?_eq_some_iff.1 hxbX).1 hh)) (hrX.tr hfr ht).1 (by rw [hq2]; exact hq)
        | 1, hf' =>
          injection hf' with hf'
          subst hf'
          exact append2 hd (by omega) hls2.lg hls2.far ho2 hnn0 hn
        | k + 2, hf' => cases hf')
      (fun f hf' dk => by
        rcases List.mem_cons.1 hf' with rfl | hf'
        · exact ⟨by have := (append_stepsq dk nm (encG rs)).1; dsimp only; omega, (append_stepsq dk nm (encG rs)).2⟩
        · rcases List.mem_cons.1 hf' with rfl | hf'
          · exact ⟨by have := (sync_steps dk nm).1; dsimp only; omega, (sync_steps dk nm).2⟩
          · cases hf')).mono ?_
    rintro e w2 ⟨rfl, G', hd, ht⟩
    exact ⟨rfl, G', hlsX.tr hd ht, hTX.trans ht, cells_blk ((ht.block _ (Array.getElem?_eq_some_iff.1 hobX).1 hn0).trans hobX) 0 _ rfl⟩)
  have HB := Lib.hid hB2
  clear hB1 hB2 hr hg h hfr hob hxb hn0 hn1 hs2
  obtain ⟨r, hr⟩ : ∃ r, appW nm rs d = r := ⟨_, rfl⟩
  rw [hr] at KS ⊢
  clear hr
  go_enter Try.func13, Try.ntmps13
  go_wp2_with fail
  refine KG.out.mono ?_
  rintro e w1 ⟨rfl, hb⟩
  have KS1 := Lib.hid (KS.out w1 hb)
  clear hb KG l3 KS
  go_wp2_with fail
  refine KS1.out.mono ?_
  rintro e w2 ⟨rfl, G1, hls, ht, hob⟩
  have HL := Lib.hid hls
  have HT := Lib.hid (LT.of_tr (lb := lb) ht)
  clear hls ht KS1
  obtain ⟨er, d1⟩ := r
  by_cases he : er = 0
  · subst he
    have l2 : w2.cell? ⟨lb, 2, none⟩ = some (.int .i64 ng) := cells_blk HL.out.lg 2 _ rfl
    have z2 : w2.frozen? ⟨lb, 2, none⟩ = false := by unfold World.frozen?; rw [show w2.heap[lb]? = _ from HL.out.lg]; simp
    have HL2 := Lib.hid (HL.out.groups (ng + 1))
    have HT2 := Lib.hid (HT.out.trans (LT.set w2 G1 2 (.int .i64 (ng + 1))))
    have KB := Lib.hid (wal_breaks lb nm (ng + 1) false 0 _ HL2.out.lg)
    have hob2 : (w2.setCell ⟨lb, 2, none⟩ (.int .i64 (ng + 1))).cell? ⟨w.heap.size, 0, none⟩ = some (pv lb) := by
      have hne : w.heap.size ≠ lb := by omega
      unfold World.cell? at hob ⊢
      rw [show (w2.setCell ⟨lb, 2, none⟩ (.int .i64 (ng + 1))).heap[w.heap.size]? = w2.heap[w.heap.size]? from Below.heap_setCell w2 ⟨lb, 2, none⟩ _ _ hne]
      exact hob
    clear HL HT
    go_wp2_with fail
    refine KB.out.mono ?_
    rintro e w3 ⟨rfl, hw⟩
    obtain ⟨h1, h2⟩ := HL2.out.ends hw
    have H1 := Lib.hid h1
    have H2 := Lib.hid (HT2.out.trans h2)
    clear h1 h2 hw KB l2 z2
    go_wp2_with fail
    go_ret
    exact ⟨rfl, G1, H1.out, H2.out⟩
  · have he' : (er == 0) = false := by rw [beq_eq_false_iff_ne]; exact he
    have KB := Lib.hid (wal_breaks lb nm ng false er _ HL.out.lg)
    have HNG : Hid (ngOf er ng (ng + 1) = ng) := Lib.hid (if_neg he)
    go_wp2_with fail
    refine KB.out.mono ?_
    rintro e w3 ⟨rfl, hw⟩
    obtain ⟨h1, h2⟩ := HL.out.ends hw
    have H1 := Lib.hid h1
    have H2 := Lib.hid (HT.out.trans h2)
    clear h1 h2 hw KB
    go_wp2_with fail
    go_ret
    exact ⟨rfl, G1, by rw [HNG.out]; exact H1.out, H2.out⟩
end Go.Proofs.Ytmdecbockpgagaa
