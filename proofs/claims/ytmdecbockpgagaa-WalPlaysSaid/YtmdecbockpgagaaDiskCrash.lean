import Derived.Test.YtmdecbockpgagaaDiskFalls
import Derived.Test.YtmdecbockpgagaaLate
import Derived.Test.YtmdecbockpgagaaIterS
import Derived.StillTailTactics
import Derived.Laws.EntriesVeiled
import Derived.Sort.CutIn
import Derived.BigFrameIn
import Derived.Test.YtmdecbockpgagaaHeld2
/- disk: Crash. -/
namespace Go.Proofs.Ytmdecbockpgagaa
open Go.RowKit Go.Maps Go.Shelf Go.Proofs.YtmdecbockpgagaaW.PrintWords Go.Proofs.YtmdecbockpgagaaW.PrintMore
variable {B : Nat} {G : DG} {d : DS} {w w' : World}

attribute [local go_sem] Oper.semAt_some

theorem At.fall (h : At B G d w) : AtC B G.fall { d with names := d.kept } (w.setCell ⟨G.p, 1, none⟩ (.map (some G.mq))) := by
  have hother : ∀ k, G.p ≠ k → (w.setCell ⟨G.p, 1, none⟩ (.map (some G.mq))).heap[k]? = w.heap[k]? := fun k hk => by
    unfold World.setCell
    simp only [Array.getElem?_modify]
    rw [if_neg hk]
  refine { cell := ?_, names := h.kept.kept (hother _ h.p_mq), files := h.files.keep (fun _ hi => hother _ (h.p_blk hi)) (fun _ _ hi hg => hother _ (h.p_row hi hg)), lo := ⟨h.lo.1, h.lo.2.2⟩, since := own_keep h.since (fun _ hg => hother _ (h.p_vs hg)) }
  show (w.setCell ⟨G.p, 1, none⟩ (.map (some G.mq))).heap[G.p]? = _
  unfold World.setCell
  simp only [Array.getElem?_modify, if_pos, h.cell]
  rfl
theorem At.not_deferred (h : At B G d w) {D : Nat} {x : Option (List Deferred)} (hD : w.heap[D]? = some (.deferred x)) : ¬ G.has D := fun hh => by
  rcases hh with hh | hh | hh | hh | ⟨i, hi, hh⟩ | ⟨i, hi, hh⟩
  · rw [hh, h.cell] at hD
    cases hD
  · obtain ⟨es, clock, hb⟩ := h.names.obj
    rw [hh, hb] at hD
    cases hD
  · obtain ⟨es, clock, hb⟩ := h.kept.obj
    rw [hh, hb] at hD
    cases hD
  · obtain ⟨cur, hb⟩ := own_obj h.since hh
    rw [hb] at hD
    cases hD
  · rw [h.files.nb] at hi
    have hb := h.files.file i _ (List.getElem?_eq_getElem hi)
    rw [show G.bl.getD i 0 = D from hh, hD] at hb
    cases hb
  · rw [h.files.nv] at hi
    obtain ⟨cur, hb⟩ := own_obj (h.files.rows i _ (List.getElem?_eq_getElem hi)) hh
    rw [hb] at hD
    cases hD
/-- The choices lie apart from the disk. -/
def Far (G : DG) (v : Value) : Prop := ∀ a n c, v = .slice (some a) (n + 1) c → ¬ G.has a.block


theorem Tr.fall (G : DG) (w : World) : Tr w G w G.fall := ⟨rfl, rfl, rfl, Nat.le_refl _, fun _ _ _ => rfl, rfl, fun k _ hh => by
  rcases hh with hh | hh | hh | hh | hh | hh
  · exact .inl hh
  · exact .inr (.inr (.inl hh))
  · exact .inr (.inr (.inl hh))
  · exact .inr (.inr (.inr (.inl hh)))
  · exact .inr (.inr (.inr (.inr (.inl hh))))
  · exact .inr (.inr (.inr (.inr (.inr hh))))⟩
theorem Tr.only {w1 w2 : World} {G1 : DG} {cb : Nat} (h : Tr w G w1 G1) (ho : Only cb w1 w2) (hcb : w.heap.size ≤ cb) : Tr w G w2 G1 :=
  ⟨ho.os.trans h.os, ho.tape.trans h.tape, ho.output.trans h.output, Nat.le_trans h.size ho.size, fun k hk hn => (ho.block k (Nat.lt_of_lt_of_le hk h.size) (by omega)).trans (h.block k hk hn), h.p, h.foot⟩
theorem slice_since (A : Option Addr) (n c m : Nat) (hm : m ≤ n) (hc : n ≤ c) (W : World) : (Instr.slice 60 (.slice A n c) none (some (.int .i64 (m : Int))) none).run Try.prog W = .ok (.slice A m c) W := by
  have h1 : 0 ≤ (m : Int) ∧ (m : Int) ≤ (c : Int) := ⟨by omega, by omega⟩
  go_simp
/-- A call of a closure with one captured value, as a step of a statement whose order is open. -/
theorem step_closure {P : Program} {W : World} {ops : Array Oper} {o : Oper} {a : Act} {K : Act → World → Prop} {Q : Exit → Act → World → Prop} {E : Prop} {f : FuncId} {fn : Func} {x cap v : Value}
    (hw : Region.wanted o (yielded ops a.tmps) = true) (g y : Operand) (t : TypeId) (ho : o.op = .call { callee := .value g, args := #[y], argTypes := #[t] })
    (hg : a.eval g = .func (.func f) #[] #[cap]) (hy : a.eval y = x)
    (hf : P.funcs[f]? = some fn) (hn : (fn.name == "runtime.NumGoroutine") = false) (hb : fn.body.isNone = false) (R : Ending → World → Prop)
    (h : Calls P f #[x, cap] W R) (hv : ∀ e w', R e w' → e = .returned v ∧ K (a.put o.dst v) w') :
    if Region.wanted o (yielded ops a.tmps) = true then Oper.wp P o a W K Q else E := by
  rw [if_pos hw]
  have hr : (execOp a.eval o).run P W = .ok (.enter f #[x, cap]) W := by
    have hn' : fn.name ≠ "runtime.NumGoroutine" := by simpa using hn
    have hb' : fn.body ≠ none := by intro e; rw [e] at hb; cases hb
    have hp : ∀ w : World, (program : Sem Program).run P w = .ok P w := fun w => rfl
    unfold execOp
    simp only [ho, resolve, Deferred.ofValue, hg, hy, invoke, callFunc, Sem.run_bind, Sem.run_pure, Result.andThen_ok, hp, hf, Array.empty_append, List.map_toArray, List.map_cons, List.map_nil]
    simp [hn', hb']
  unfold Oper.wp
  rw [hr]
  refine h.mono ?_
  intro e w' hR
  obtain ⟨rfl, hk⟩ := hv e w' hR
  exact hk

set_option maxRecDepth 100000 in
set_option maxHeartbeats 4000000 in
theorem crash_in (n : Nat) (h : At B G d w) (ho : d.Ok) (v : Value) (cs : List Int) (hv : RdB w v cs) (hby : By cs) (hfar : Far G v) :
    CallsIn Fence.wide n Try.prog 17 #[dp G, v] w fun e w' => (∃ u, e = .returned u) ∧ ∃ G', At B G' (d.crash cs) w' ∧ Tr w G w' G' := by
  obtain ⟨Ac, cc, rfl, hcc, hrc⟩ := hv
  have hv : RdB w (.slice Ac cs.length cc) cs := ⟨Ac, cc, rfl, hcc, hrc⟩
  clear hcc hrc
  obtain ⟨v, hvv⟩ : ∃ v, Value.slice Ac cs.length cc = v := ⟨_, rfl⟩
  rw [hvv] at hv hfar
  have HVV := Lib.hid hvv
  have HH := Lib.hid h
  have HOK := Lib.hid ho
  have HV := Lib.hid hv
  have HBY := Lib.hid hby
  have HFAR := Lib.hid hfar
  have hA0 := (h.alloc (.cells #[v] 22)).alloc (.cells #[.func (.func 39) #[] #[.pointer (some ⟨w.heap.size, 0, none⟩)]] 70)
  have hT0 : Tr w G ((w.alloc (.cells #[v] 22)).alloc (.cells #[.func (.func 39) #[] #[.pointer (some ⟨w.heap.size, 0, none⟩)]] 70)) G := Tr.of_below (((Below.refl _ w).alloc (Nat.le_refl _) _).alloc (by simp) _) G
  have hbc : Boxed ((w.alloc (.cells #[v] 22)).alloc (.cells #[.func (.func 39) #[] #[.pointer (some ⟨w.heap.size, 0, none⟩)]] 70)) w.heap.size 22 v := (Boxed.new w _ v).alloc _
  have hbf : Boxed ((w.alloc (.cells #[v] 22)).alloc (.cells #[.func (.func 39) #[] #[.pointer (some ⟨w.heap.size, 0, none⟩)]] 70)) (w.heap.size + 1) 70 (.func (.func 39) #[] #[.pointer (some ⟨w.heap.size, 0, none⟩)]) := by
    have := Boxed.new (w.alloc (.cells #[v] 22)) 70 (.func (.func 39) #[] #[.pointer (some ⟨w.heap.size, 0, none⟩)])
    simpa using this
  have hv0 := hv.below (((Below.refl _ w).alloc (Nat.le_refl _) (.cells #[v] 22)).alloc (by simp) (.cells #[.func (.func 39) #[] #[.pointer (some ⟨w.heap.size, 0, none⟩)]] 70))
  generalize hW0 : (w.alloc (.cells #[v] 22)).alloc (.cells #[.func (.func 39) #[] #[.pointer (some ⟨w.heap.size, 0, none⟩)]] 70) = W0 at hA0 hT0 hbc hbf hv0
  have l5 := hA0.l5
  have z5 := hA0.thaw 5
  have hA5 : At B G { d with failAt := 0 } (W0.setCell ⟨G.p, 5, none⟩ (.int .i64 0)) := hA0.setP 5 _ rfl rfl rfl rfl rfl
  have l6 := hA5.l6
  have z6 := hA5.thaw 6
  have hA6 : At B G { d with failAt := 0, offAt := 0 } ((W0.setCell ⟨G.p, 5, none⟩ (.int .i64 0)).setCell ⟨G.p, 6, none⟩ (.int .i64 0)) := hA5.setP 6 _ rfl rfl rfl rfl rfl
  have l2 := hA6.l2
  have l1 := hA6.l1
  have z1 := hA6.thaw 1
  have hAC := hA6.fall
  have hT1 := ((hT0.trans (Tr.setCell W0 G 5 (.int .i64 0))).trans (Tr.setCell (W0.setCell ⟨G.p, 5, none⟩ (.int .i64 0)) G 6 (.int .i64 0))).trans (Tr.setCell ((W0.setCell ⟨G.p, 5, none⟩ (.int .i64 0)).setCell ⟨G.p, 6, none⟩ (.int .i64 0)) G 1 (.map (some G.mq)))
  clear h ho hv hby hfar
  refine callsIn_of_wp_marks Try.func17 rfl trivial ?_ rfl
  simp only [Try.ntmps17, List.size_toArray, List.length_cons, List.length_nil, Nat.reduceAdd, Nat.reduceSub, Array.replicate_succ, Array.replicate_zero, List.push_toArray, List.append_toArray, List.nil_append, List.cons_append]
  have hsz0 : W0.heap.size = w.heap.size + 2 := by rw [← hW0]; simp
  have HCH0 : Hid (ChF G W0 w.heap.size cs) := Lib.hid (by
    obtain ⟨A, c, he, hcc, hrr⟩ := hv0
    have he2 : v = .slice A cs.length c := he
    refine ⟨A, c, by rw [← he2]; exact hbc, hcc, HBY.out, hrr, fun h0 => ?_, fun hh => ?_⟩
    · obtain ⟨a, rfl, hcell⟩ := hrr.2.2 h0
      obtain ⟨A2, c2, he3, _, hr2⟩ := HV.out
      rw [he2] at he3
      cases he3
      obtain ⟨a2, hea, hcell2⟩ := hr2.2.2 h0
      cases hea
      have h2 := reads_lt (hcell2 0 h0)
      rw [add_block] at h2
      refine ⟨a, rfl, HFAR.out a (cs.length - 1) c (by rw [he2, Nat.sub_add_cancel h0]), by omega⟩
    · have := (HH.out.has_lt hh).2
      omega)
  have HNF : Hid (¬ G.has (w.heap.size + 1)) := Lib.hid (fun hh => by
    have := (HH.out.has_lt hh).2
    omega)
  have HT01 := Lib.hid (((Tr.setCell W0 G 5 (.int .i64 0)).trans (Tr.setCell (W0.setCell ⟨G.p, 5, none⟩ (.int .i64 0)) G 6 (.int .i64 0))).trans (Tr.setCell ((W0.setCell ⟨G.p, 5, none⟩ (.int .i64 0)).setCell ⟨G.p, 6, none⟩ (.int .i64 0)) G 1 (.map (some G.mq))))
  have HAC := Lib.hid hAC
  have HT1 := Lib.hid hT1
  have HBC := Lib.hid hbc
  have HBF := Lib.hid hbf
  have HV0 := Lib.hid hv0
  have HT0 := Lib.hid hT0
  have HA0 := Lib.hid hA0
  clear hAC hT1 hbc hbf hv0 hA0 hA5 hA6 hT0
  rw [← hvv] at hW0
  clear hvv
  gi_upto_region 2 with fail
  clear hW0
  gi_upto_region 4 with fail
  have HCH1 := Lib.hid (HCH0.out.step HT01.out)
  have hbf1 : Boxed (((W0.setCell ⟨G.p, 5, none⟩ (.int .i64 0)).setCell ⟨G.p, 6, none⟩ (.int .i64 0)).setCell ⟨G.p, 1, none⟩ (.map (some G.mq))) (w.heap.size + 1) 70 _ := (HT01.out.block _ HBF.out.lt HNF.out).trans HBF.out
  have HBF1 := Lib.hid hbf1
  clear hbf1 l5 z5 l6 z6 l2 l1 z1
  generalize ((W0.setCell ⟨G.p, 5, none⟩ (.int .i64 0)).setCell ⟨G.p, 6, none⟩ (.int .i64 0)).setCell ⟨G.p, 1, none⟩ (.map (some G.mq)) = W1 at *
  have HA2 := Lib.hid (HAC.out.below (Below.refl W1.heap.size W1).drew)
  have HT2 := Lib.hid ((HT1.out.then_below (Below.refl W1.heap.size W1).drew).trans (Tr.fall G W1.drew))
  have HCH2 := Lib.hid ((HCH1.out.step (Tr.of_below (Below.refl W1.heap.size W1).drew G)).step (Tr.fall G W1.drew))
  have HBF2 := Lib.hid (((Below.refl W1.heap.size W1).drew.block _ HBF1.out.lt).trans HBF1.out)
  obtain ⟨Av, cv, hvs, hcv⟩ := own_shape HAC.out.since
  have l3 : W1.cell? ⟨G.p, 3, none⟩ = some (.slice Av d.since.length cv) := by
    have := cell_of_block HAC.out.cell 3 _ rfl
    rw [← hvs]
    exact this
  have lf := HBF1.out.cell
  have HSL : Hid (d.since.length ≤ 1000000000000) := Lib.hid (by
    have h1 := HOK.out.sinceN
    have h2 := HOK.out.steps.2
    omega)
  have hsl := slice_since Av d.since.length cv (pick1 cs d.since.length).1 (pick1_le _ _) hcv
  refine wpIn_wide.2 ?_
  refine wp_region_noPanic ?_
  refine wp_region_held_drew (S := fun W => W.cell? ⟨G.p, 3, none⟩ = some (.slice Av d.since.length cv) ∧ W.cell? ⟨w.heap.size + 1, 0, none⟩ = some (.func (.func 39) #[] #[.pointer (some ⟨w.heap.size, 0, none⟩)])) (by kernel_rfl) ⟨l3, lf⟩ (fun hHeld => ?_)
  replace l3 : W1.drew.cell? ⟨G.p, 3, none⟩ = some (.slice Av d.since.length cv) := l3
  replace lf : W1.drew.cell? ⟨w.heap.size + 1, 0, none⟩ = some (.func (.func 39) #[] #[.pointer (some ⟨w.heap.size, 0, none⟩)]) := lf
  generalize W1.drew = W2 at *
  have s10 : ∀ W3, Only w.heap.size W2 W3 → (fun W : World => W.cell? ⟨G.p, 3, none⟩ = some (.slice Av d.since.length cv) ∧ W.cell? ⟨w.heap.size + 1, 0, none⟩ = some (.func (.func 39) #[] #[.pointer (some ⟨w.heap.size, 0, none⟩)])) W3 := fun W3 ho => by
    have hp := HH.out.p_lt
    exact ⟨(World.cell?_of_block (ho.block G.p HA2.out.p_lt (by omega))).trans l3, (World.cell?_of_block (ho.block (w.heap.size + 1) (show Boxed W2 _ _ _ from HBF2.out).lt (by omega))).trans lf⟩
  refine held_take (i := 0) (v := ?_) rfl (by kernel_rfl) (by kernel_rfl) (by kernel_rfl) (fun _ _ _ h => h) (by rfl) hHeld ?y4_0 ?_
  case y4_0 => (intro w hSw; (try dsimp only at hSw); go_simp; try with_reducible rfl)
  try simp only [Act.put, List.setIfInBounds_toArray, List.set_cons_zero, List.set_cons_succ]
  refine held_take (i := 1) (v := ?_) rfl (by kernel_rfl) (by kernel_rfl) (by kernel_rfl) (fun _ _ _ h => h) (by rfl) hHeld ?y4_1 ?_
  case y4_1 => (intro w hSw; (try dsimp only at hSw); go_simp; try with_reducible rfl)
  try simp only [Act.put, List.setIfInBounds_toArray, List.set_cons_zero, List.set_cons_succ]
  refine held_take (i := 2) (v := ?_) rfl (by kernel_rfl) (by kernel_rfl) (by kernel_rfl) (fun _ _ _ h => h) (by rfl) hHeld ?y4_2 ?_
  case y4_2 => (intro w hSw; (try dsimp only at hSw); go_simp; try with_reducible rfl)
  try simp only [Act.put, List.setIfInBounds_toArray, List.set_cons_zero, List.set_cons_succ]
  refine held_take (i := 3) (v := ?_) rfl (by kernel_rfl) (by kernel_rfl) (by kernel_rfl) (fun _ _ _ h => h) (by rfl) hHeld ?y4_3 ?_
  case y4_3 => (intro w hSw; (try dsimp only at hSw); go_simp; try with_reducible rfl)
  try simp only [Act.put, List.setIfInBounds_toArray, List.set_cons_zero, List.set_cons_succ]
  refine held_take (i := 4) (v := ?_) rfl (by kernel_rfl) (by kernel_rfl) (by kernel_rfl) (fun _ _ _ h => h) (by rfl) hHeld ?y4_4 ?_
  case y4_4 => (intro w hSw; (try dsimp only at hSw); go_simp; try with_reducible rfl)
  try simp only [Act.put, List.setIfInBounds_toArray, List.set_cons_zero, List.set_cons_succ]
  refine held_take (i := 5) (v := ?_) rfl (by kernel_rfl) (by kernel_rfl) (by kernel_rfl) (fun _ _ _ h => h) (by rfl) hHeld ?y4_5 ?_
  case y4_5 => (intro w hSw; (try dsimp only at hSw); go_simp; try with_reducible rfl)
  try simp only [Act.put, List.setIfInBounds_toArray, List.set_cons_zero, List.set_cons_succ]
  refine held_take (i := 6) (v := ?_) rfl (by kernel_rfl) (by kernel_rfl) (by kernel_rfl) (fun _ _ _ h => h) (by rfl) hHeld ?y4_6 ?_
  case y4_6 => (intro w hSw; (try dsimp only at hSw); go_simp; try with_reducible rfl)
  try simp only [Act.put, List.setIfInBounds_toArray, List.set_cons_zero, List.set_cons_succ]
  refine held_take (i := 7) (v := ?_) rfl (by kernel_rfl) (by kernel_rfl) (by kernel_rfl) (fun _ _ _ h => h) (by rfl) hHeld ?y4_7 ?_
  case y4_7 => (intro w hSw; (try dsimp only at hSw); go_simp; try with_reducible rfl)
  try simp only [Act.put, List.setIfInBounds_toArray, List.set_cons_zero, List.set_cons_succ]
  refine held_take (i := 8) (v := ?_) rfl (by kernel_rfl) (by kernel_rfl) (by kernel_rfl) (fun _ _ _ h => h) (by rfl) hHeld ?y4_8 ?_
  case y4_8 => (intro w hSw; (try dsimp only at hSw); go_simp; try with_reducible rfl)
  try simp only [Act.put, List.setIfInBounds_toArray, List.set_cons_zero, List.set_cons_succ]
  refine held_take (i := 9) (v := ?_) rfl (by kernel_rfl) (by kernel_rfl) (by kernel_rfl) (fun _ _ _ h => h) (by rfl) hHeld ?y4_9 ?_
  case y4_9 => (intro w hSw; (try dsimp only at hSw); go_simp; try with_reducible rfl)
  try simp only [Act.put, List.setIfInBounds_toArray, List.set_cons_zero, List.set_cons_succ]
  refine held_take (i := 13) (v := ?_) rfl (by kernel_rfl) (by kernel_rfl) (by kernel_rfl) (fun _ _ _ h => h) (by rfl) hHeld ?y4_13 ?_
  case y4_13 => (intro w hSw; (try dsimp only at hSw); go_simp; try with_reducible rfl)
  try simp only [Act.put, List.setIfInBounds_toArray, List.set_cons_zero, List.set_cons_succ]
  refine held_one (i := 10) (by kernel_rfl) rfl (fun K hK => ?_)
  (refine step_closure (v := .int .i64 ((pick1 cs d.since.length).1 : Int)) (by rfl) _ _ _ rfl rfl rfl Try.func39 (by kernel_rfl) (by kernel_rfl) _ (disk_choose W2 w.heap.size d.since.length cs G.fall HSL.out HCH2.out) ?_; rintro e W3 ⟨rfl, hch3, hon3⟩; have hS10 := s10 W3 hon3; refine ⟨rfl, ?_⟩)
  refine hK.out _ _ ?_ (fun hHeld => ?_)
  · exact hS10
  clear hK K
  try simp only [Act.put, List.setIfInBounds_toArray, List.set_cons_zero, List.set_cons_succ]
  refine held_take (i := 11) (v := ?_) rfl (by kernel_rfl) (by kernel_rfl) (by kernel_rfl) (fun _ _ _ h => h) (by rfl) hHeld ?y4_11 ?_
  case y4_11 => (intro w hSw; (try dsimp only at hSw); go_simp; try with_reducible rfl)
  try simp only [Act.put, List.setIfInBounds_toArray, List.set_cons_zero, List.set_cons_succ]
  refine held_take (i := 12) (v := ?_) rfl (by kernel_rfl) (by kernel_rfl) (by kernel_rfl) (fun _ _ _ h => h) (by rfl) hHeld ?y4_12 ?_
  case y4_12 => (intro w hSw; (try dsimp only at hSw); go_simp; try with_reducible rfl)
  try simp only [Act.put, List.setIfInBounds_toArray, List.set_cons_zero, List.set_cons_succ]
  refine wpAnyH_done (by kernel_rfl) ?_ _
  refine NoPanic.normal ?_
  have HA3 := Lib.hid (HA2.out.only hon3 (by obtain ⟨A9, c9, hb9, -⟩ := HCH2.out; exact ⟨_, hb9⟩))
  have HT3 := Lib.hid (HT2.out.only hon3 (Nat.le_refl _))
  have HCH3 := Lib.hid hch3
  have HBF3 : Hid (Boxed W3 (w.heap.size + 1) 70 (.func (.func 39) #[] #[.pointer (some ⟨w.heap.size, 0, none⟩)])) := Lib.hid ((hon3.block _ (show Boxed W2 _ _ _ from HBF2.out).lt (by omega)).trans HBF2.out)
  have hm := pick1_le cs d.since.length
  obtain ⟨m, hmm⟩ : ∃ m, (pick1 cs d.since.length).1 = m := ⟨_, rfl⟩
  obtain ⟨cs1, hc1⟩ : ∃ cs1, (pick1 cs d.since.length).2 = cs1 := ⟨_, rfl⟩
  have HM := Lib.hid hmm
  have HC1 := Lib.hid hc1
  rw [hmm] at hm ⊢
  rw [hc1] at HCH3
  clear hHeld hS10 s10 l3 lf hsl hch3 hon3 hmm hc1 HA2 HT2 HCH2 HBF2 HT0 HA0 HT01 HCH0 HCH1 HBF1 HBF HBC HV0
  gi_upto_region 5 with fail
  gi_loopw [37] (fun i wr => ∃ (k : Nat) (mk : NM), i = .int .i64 (k : Int) ∧ k ≤ m ∧ Hid (replay d.kept (d.since.take k) = some mk ∧ AtC B G.fall { d with failAt := 0, offAt := 0, names := mk } wr ∧ Tr w G wr G.fall ∧ ChF G.fall wr w.heap.size cs1 ∧ Boxed wr (w.heap.size + 1) 70 (.func (.func 39) #[] #[.pointer (some ⟨w.heap.size, 0, none⟩)]))) (fun i _ => m - (intOf i).toNat)
  case atStart => exact ⟨0, d.kept, rfl, Nat.zero_le _, Lib.hid ⟨by rw [List.take_zero]; rfl, HA3.out, HT3.out, HCH3.out, HBF3.out⟩⟩
  case round =>
    obtain ⟨k, mk, rfl, hkm, HR⟩ := hrel
    have hbd : d.since.length ≤ 1000000000000 := HSL.out
    by_cases hlt : k < m
    · have hkl : k < d.since.length := by omega
      have HLT : Hid (k + 1 ≤ m) := Lib.hid hlt
      obtain ⟨mk2, hmk2⟩ := replay_take HOK.out.back (k + 1)
      have hdo := replay_succ hkl HR.out.1 hmk2
      have HMK2 := Lib.hid hmk2
      have HDO := Lib.hid hdo
      have hlen := HOK.out.lengths _ (List.getElem_mem hkl)
      have hml := HOK.out.manyAt k mk HR.out.1
      have hlenA : Av = some ⟨Av.elim 0 Addr.block, 0, none⟩ := by
        rcases HR.out.2.1.since.2 with ⟨he, _⟩ | ⟨g, cap, cur, he, _⟩
        · have he2 : G.fall.vs = .slice none 0 0 := he
          rw [hvs] at he2
          injection he2 with _ he3
          omega
        · have he2 : G.fall.vs = .slice (some ⟨g, 0, none⟩) d.since.length cap := he
          rw [hvs] at he2
          injection he2 with he3
          rw [he3]
          rfl
      obtain ⟨g, hg⟩ : ∃ g, Av = some ⟨g, 0, none⟩ := ⟨_, hlenA⟩
      have hgb : G.fall.vs.ownBlock = some g := by
        show G.fall.vs.ownBlock = some g
        rw [hvs, hg]
        rfl
      obtain ⟨c0, c1, c2⟩ := since_cells HR.out.2.1 hgb (show k < d.since.length from hkl)
      obtain ⟨pa, hpa⟩ := vOf_ptr (d.since[k].f.map G.fall.blk)
      rw [hpa] at c0
      have HPA := Lib.hid hpa
      clear hpa
      have hi := idx67 g m cv k hlt
      rw [← hg] at hi
      clear hlenA hmk2 hdo hg hgb
      gi_upto_region 7 with fail
      have hB7 := (Below.refl wr.heap.size wr).alloc (Nat.le_refl _) (.cells #[.pointer pa, .string (S d.since[k].src), .string (S d.since[k].dst)] 73)
      have HA7 := Lib.hid (HR.out.2.1.below hB7)
      have HT7 := Lib.hid (HR.out.2.2.1.then_below hB7)
      have HC7 := Lib.hid (HR.out.2.2.2.1.step (Tr.of_below hB7 G.fall))
      have HF7 := Lib.hid ((hB7.block _ HR.out.2.2.2.2.lt).trans HR.out.2.2.2.2)
      have hcc := World.news_of_block (w := wr.alloc (.cells #[.pointer pa, .string (S d.since[k].src), .string (S d.since[k].dst)] 73)) (heap_alloc_new wr _)
      have e0 := hcc 0 (.pointer pa) rfl
      have e1 := hcc 1 (.string (S d.since[k].src)) rfl
      have e2 := hcc 2 (.string (S d.since[k].dst)) rfl
      rw [add_plain] at e0 e1 e2
      clear hcc hB7 c0 c1 c2 hi
      generalize hx : d.since[k] = x at *
      generalize wr.alloc (.cells #[.pointer pa, .string (S x.src), .string (S x.dst)] 73) = W7 at *
      have l1 : W7.cell? ⟨G.p, 1, none⟩ = some (.map (some G.mq)) := cell_of_block HA7.out.cell 1 _ rfl
      have hD := disk_does x G.fall.blk mk mk2 G.mq (w := W7.drew) (by omega) (by omega) (by omega) (show SM W7 G.mq _ from HA7.out.names) HDO.out
      rw [HPA.out] at hD
      have HD := Lib.hid hD
      clear hD
      refine wpIn_wide.2 ?_
      refine wp_region_noPanic ?_
      go_still_tail 5, (by kernel_rfl)
      go_wp2_with fail
      refine HD.out.mono ?_
      rintro e W8 ⟨⟨v8, rfl⟩, hsm, hg8⟩
      have hdr := (Below.refl W7.heap.size W7).drew
      have htg : Tr W7.drew G.fall W8 G.fall := Tr.of_grown hg8 (.inr (.inl rfl))
      have HA8 := Lib.hid ((HA7.out.below hdr).names_turn hsm hg8)
      have HT8 := Lib.hid ((HT7.out.then_below hdr).trans htg)
      have HC8 := Lib.hid ((HC7.out.step (Tr.of_below hdr G.fall)).step htg)
      have HF8 : Hid (Boxed W8 (w.heap.size + 1) 70 (.func (.func 39) #[] #[.pointer (some ⟨w.heap.size, 0, none⟩)])) := Lib.hid (by
        have hb := (hdr.block _ (show Boxed W7 (w.heap.size + 1) 70 (.func (.func 39) #[] #[.pointer (some ⟨w.heap.size, 0, none⟩)]) from HF7.out).lt).trans HF7.out
        refine (hg8.block _ (Array.getElem?_eq_some_iff.1 hb).1 (fun e => ?_)).trans hb
        obtain ⟨es, clock, hbm⟩ := HA7.out.names.obj
        have he : w.heap.size + 1 = G.mq := by injection e
        have hbm2 : W7.heap[G.mq]? = some (.map es clock) := hbm
        rw [← he, show W7.heap[w.heap.size + 1]? = _ from HF7.out] at hbm2
        cases hbm2)
      clear hsm hg8 hdr htg HD HA7 HT7 HC7 HF7 e0 e1 e2 l1
      go_wp2_with fail
      refine NoPanic.normal ?_
      gi_wp2_with fail
      go_roundw
      case rel => exact ⟨k + 1, mk2, by go_num, HLT.out, Lib.hid ⟨HMK2.out, HA8.out, HT8.out, HC8.out, HF8.out⟩⟩
      case measure =>
        have := HLT.out
        simp [intOf]
        omega
    · have hkm2 : k = m := by omega
      subst hkm2
      have hA9 := HR.out.2.1
      gi_upto_region 9 with fail
      gi_wp2_with fail
      refine ⟨trivial, fun h => absurd h (by decide), (all_in (n - 1) G.p _).mono ?_⟩
      rintro e w' ⟨rfl, rfl⟩
      gi_wp2_with fail
      have b1 := Boxed.new wr 24 (.pointer (some ⟨G.p, 0, none⟩))
      have hB9 := (Below.refl wr.heap.size wr).alloc (Nat.le_refl _) (.cells #[.pointer (some ⟨G.p, 0, none⟩)] 24)
      have hs9 : (wr.alloc (.cells #[.pointer (some ⟨G.p, 0, none⟩)] 24)).heap.size = wr.heap.size + 1 := by simp
      have hA10 := hA9.below hB9
      have hT10 := HR.out.2.2.1.then_below hB9
      have hC10 := HR.out.2.2.2.1.step (Tr.of_below hB9 G.fall)
      have hF10 : Boxed (wr.alloc (.cells #[.pointer (some ⟨G.p, 0, none⟩)] 24)) (w.heap.size + 1) 70 (fnV w) := (hB9.block _ HR.out.2.2.2.2.lt).trans HR.out.2.2.2.2
      generalize wr.alloc (.cells #[.pointer (some ⟨G.p, 0, none⟩)] 24) = W9 at *
      have hml := HOK.out.manyAt k mk HR.out.1
      have hpl : G.p < wr.heap.size := hA9.p_lt
      have hmq : G.mq < wr.heap.size := hA9.names.lt
      have hwl := HT3.out.size
      have hw9 : w.heap.size ≤ wr.heap.size := HR.out.2.2.1.size
      have hcl := HR.out.2.2.2.2.lt
      have hpne : ∀ i, i < d.files.length → G.blk i < wr.heap.size := fun i hi => (hA9.lt (.inr (.inr (.inr (.inl ⟨i, hi, rfl⟩))))).2
      have hfl : d.files.length = G.bl.length := HA3.out.files.nb.symm
      refine wpIn_rangeS (gf := 63) (lb := #[.pointer (some ⟨wr.heap.size, 0, none⟩)]) rfl (enters_of Try.func63 (by kernel_rfl) rfl)
        (all_seq (n - 1) wr.heap.size G.p G.mq (pcells G.fall { d with failAt := 0, offAt := 0, names := mk }) mk G.blk (CKp (rdC w G) (fun k => k = wr.heap.size ∨ k = G.p ∨ k = G.mq) W9.heap.size) (fun _ k => ¬ rdC w G k) rfl
          (fun X Y hk => ⟨hk.size, hk.fix _ (.inl rfl), hk.fix _ (.inr (.inl rfl)), hk.fix _ (.inr (.inr rfl))⟩) (fun X Y k hk hb => hk) (fun X Y k hk hc hkp => CKp.round hk hc hkp)
          W9 b1 hA10.cell hA10.names (by omega) (fun W' k hb' hk hh => by
            rcases hh with hh | ⟨i, hi, hh⟩
            · omega
            · have := hpne i (by rw [hfl]; exact hi)
              omega))
        (fun h k => h.trans k) (fun W => CKp.refl _ _ _ W)
        (fun W l o o' hl ho hc => CKp.put W l o o' (by omega) ho hc (fun k hk => by rcases hk with rfl | rfl | rfl <;> omega))
        (Below.refl _ _) (fun _ => rfl) (fun k e => e.elim)
        (fun s x X Y h t => h)
        (CI B wr.heap.size w G { d with failAt := 0, offAt := 0, names := mk } mk (crashF d.files mk cs1)) (fun _ _ _ => False)
        (fun s X Y h t => h.turned (by omega) (by omega) t) (fun _ _ _ _ h _ => h) ⟨rfl, G.fall, d.files, cs1, { sh := ⟨rfl, rfl, rfl, rfl, rfl⟩, at_ := hA10.toAtW, tr := hT10, ch := hC10, fn := hF10, it := b1, res := rfl, len := rfl, ok := HOK.out.bytes }⟩
        8 (fun x => .pointer (some ⟨G.blk x.2, 0, none⟩)) ?assign ?body ?done ?stop
      case assign =>
        intro l x W K hK
        gi_wp2
        simpa using hK
      case stop =>
        intro D c pre W _ _ h
        exact h.elim
      case done =>
        rintro D xs X hD rfl ⟨hpre, G1, fs, cs2, c⟩ hKD
        have hgm := run_takeDeferred (P := Try.prog) hKD
        have hres := c.res
        rw [List.drop_length] at hres
        have hfs : fs = (crashF d.files xs cs1).1 := by rw [← hres]; rfl
        have HD := Lib.hid (disk_keeps c.at_)
        have HX := Lib.hid c
        have hpp : G1.p = G.p := c.sh.1
        have HFS := Lib.hid hfs
        have HKD := Lib.hid hKD
        have hdp : dp G1 = dp G := by unfold dp; rw [hpp]
        have hcr : d.crash cs = ({ { d with failAt := 0, offAt := 0, names := xs } with files := fs } : DS).keeps := by
          unfold DS.crash DS.keeps
          simp only
          rw [HM.out, HC1.out, HR.out.1, HFS.out]
          rfl
        have HCR := Lib.hid hcr
        rw [hdp] at HD
        clear c hfs hres hgm hKD hcr hdp
        gi_upto_region 15 with fail
        gi_wp2_with fail
        refine ⟨trivial, fun h => absurd h (by decide), (callsIn_wide.2 HD.out).mono ?_⟩
        rintro e Y ⟨⟨v2, rfl⟩, hA, hT⟩
        have hKY : Y.heap[D]? = some (.deferred (some [])) := by
          refine (hT.block D (Array.getElem?_eq_some_iff.1 HKD.out).1 (fun hh => ?_)).trans HKD.out
          have hDw : w.heap.size ≤ D := by omega
          have hG : ∀ {k : Nat}, G.has k → k ≠ D := fun hk e => by
            have := (HH.out.has_lt hk).2
            omega
          rcases hh with hh | hh | hh | hh | ⟨i, hi, hh⟩ | ⟨i, hi, hh⟩
          · exact hG (.inl rfl) (by rw [hh, hpp])
          · have e1 : G1.mn = G.mq := HX.out.sh.2.1
            exact hG (.inr (.inr (.inl rfl))) (by rw [hh, e1])
          · have e1 : G1.mq = G.mq := HX.out.sh.2.2.1
            exact hG (.inr (.inr (.inl rfl))) (by rw [hh, e1])
          · have e1 : G1.vs = G.vs := HX.out.sh.2.2.2.1
            rw [e1] at hh
            exact hG (.inr (.inr (.inr (.inl hh)))) rfl
          · rw [HX.out.at_.files.nb] at hi
            have hb := HX.out.at_.files.file i _ (List.getElem?_eq_getElem hi)
            rw [show G1.bl.getD i 0 = D from hh, HKD.out] at hb
            cases hb
          · rw [HX.out.at_.files.nv] at hi
            obtain ⟨cur, hb⟩ := own_obj (HX.out.at_.files.rows i _ (List.getElem?_eq_getElem hi)) hh
            rw [HKD.out] at hb
            cases hb
        have hgm := run_takeDeferred (P := Try.prog) hKY
        have HA := Lib.hid hA
        have HT := Lib.hid (HX.out.tr.trans hT)
        clear hA hT HD
        gi_wp2_with fail
        have hAD := HA.out
        have hTD := HT.out
        have hnd := hAD.not_deferred hKY
        have hne : ∀ k, k ≠ D → (Y.putObj D (.deferred none)).heap[k]? = Y.heap[k]? := fun k hk => World.putObj_heap_other hk
        have hfin : At B { G1 with mq := X.heap.size, vs := .slice none 0 0 } (d.crash cs) (Y.putObj D (.deferred none)) := by
          rw [HCR.out]
          exact hAD.keep (fun k hk => hne k (fun e => hnd (e ▸ hk)))
        have htr : Tr w G (Y.putObj D (.deferred none)) { G1 with mq := X.heap.size, vs := .slice none 0 0 } :=
          ⟨hTD.os, hTD.tape, hTD.output, by have := hTD.size; simpa using this, fun k hk hn => (hne k (by omega)).trans (hTD.block k hk hn), hTD.p, fun k hk hh => hTD.foot k hk hh⟩
        refine ⟨by simp, .inl ⟨_, _, rfl, hgm, ?_⟩⟩
        exact ⟨_, results_none rfl _ _ _, ⟨_, rfl⟩, _, hfin, htr⟩
      case body =>
        rintro l pre x X a1 ha1 ⟨hpre, G1, fs, cs2, c⟩ hg
        simp at ha1
        subst ha1
        have hx2 : x.2 < fs.length := by
          rw [c.len]
          exact replay_lt HR.out.1 HOK.out.kept (fun c hc => HOK.out.since c (List.mem_of_mem_take hc)) x (List.mem_of_getElem? hg)
        obtain ⟨f, hf⟩ : ∃ f, fs[x.2]? = some f := ⟨_, List.getElem?_eq_getElem hx2⟩
        have ⟨hok1, hok2⟩ := c.ok f (List.mem_of_getElem? hf)
        have hbk : G1.blk x.2 = G.blk x.2 := by unfold DG.blk; rw [c.sh.2.2.2.2]
        have hfi : X.heap[G.blk x.2]? = some (.cells #[G1.row x.2, .int .i64 (f.kept : Int)] 79 (0, 0)) := by rw [← hbk]; exact c.at_.files.file x.2 f hf
        obtain ⟨Af, cf, hrow, hcf⟩ := own_shape (c.at_.files.rows x.2 f hf)
        have hrow' : G1.row x.2 = .slice Af f.b.length cf := hrow
        obtain ⟨ps, hps⟩ : ∃ ps, G.blk x.2 = ps := ⟨_, rfl⟩
        have HBK : Hid (G1.blk x.2 = ps) := Lib.hid (hbk.trans hps)
        rw [hps] at hfi ⊢
        have HPS := Lib.hid hps
        have c0 := cell_of_block hfi 0 _ rfl
        rw [hrow'] at c0
        have c1 := cell_of_block hfi 1 _ rfl
        have lf := c.fn.cell
        obtain ⟨⟨pa, cs3⟩, hpa⟩ : ∃ q, pick1 cs2 (f.b.length - f.kept) = q := ⟨_, rfl⟩
        obtain ⟨⟨pb, cs4⟩, hpb⟩ : ∃ q, pick1 cs3 pa = q := ⟨_, rfl⟩
        have ha2 : pa ≤ f.b.length - f.kept := by have := pick1_le cs2 (f.b.length - f.kept); rw [hpa] at this; exact this
        have hb2 : pb ≤ pa := by have := pick1_le cs3 pa; rw [hpb] at this; exact this
        have HX := Lib.hid c
        have HF := Lib.hid hf
        have HG := Lib.hid hg
        have HPR := Lib.hid hpre
        have HPA := Lib.hid hpa
        have HPB := Lib.hid hpb
        have HRW := Lib.hid hrow'
        have hcl1 := c.fn.lt
        have hws : w.heap.size ≤ X.heap.size := c.tr.size
        obtain ⟨kf, hkf⟩ : ∃ q, f.kept = q := ⟨_, rfl⟩
        obtain ⟨lb, hlb⟩ : ∃ q, f.b.length = q := ⟨_, rfl⟩
        have HLB := Lib.hid hlb
        have HKF := Lib.hid hkf
        rw [hlb] at hok1
        rw [hkf, hlb] at hok2 ha2
        rw [hlb] at c0 hcf
        rw [hkf] at c1
        have hB0 := (Below.refl X.heap.size X).drew
        have HA0 := Lib.hid (c.at_.below hB0)
        have HC0 := Lib.hid (c.ch.step (Tr.of_below hB0 G1))
        have HRD0 : Hid (RD w.heap.size ps X X.drew) := Lib.hid (RD.of_below hB0)
        have hD := disk_choose X.drew w.heap.size (f.b.length - f.kept) cs2 G1 (by rw [hlb, hkf]; omega) HC0.out
        rw [hpa, show ((f.b.length - f.kept : Nat) : Int) = (lb : Int) - (kf : Int) by omega] at hD
        dsimp only at hD
        have hwr : IntKind.i64.wrap ((lb : Int) - (kf : Int)) = (lb : Int) - (kf : Int) := wrap_small _ (by omega) (by omega)
        have HD := Lib.hid hD
        have hfd : X.drew.heap[ps]? = some (.cells #[G1.row x.2, .int .i64 (f.kept : Int)] 79 (0, 0)) := hfi
        have hbd : Boxed X.drew (w.heap.size + 1) 70 (fnV w) := c.fn
        clear hD hx2 hpre hg hf hbk hrow hpa hpb hlb hkf hps hB0 c
        replace c0 : X.drew.cell? ⟨ps, 0, none⟩ = some (.slice Af lb cf) := c0
        replace c1 : X.drew.cell? ⟨ps, 1, none⟩ = some (.int .i64 (kf : Int)) := c1
        replace lf : X.drew.cell? ⟨w.heap.size + 1, 0, none⟩ = some (.func (.func 39) #[] #[.pointer (some ⟨w.heap.size, 0, none⟩)]) := lf
        have hpsl : ps < X.heap.size := (Array.getElem?_eq_some_iff.1 hfi).1
        have hpsw : ps ≠ w.heap.size := by
          obtain ⟨A9, c9, hb9, -⟩ := HX.out.ch
          exact obj_ne hfi hb9 (by simp)
        have hpsf : ps ≠ w.heap.size + 1 := obj_ne hfi HX.out.fn (by simp)
        clear hfi hrow'
        have sOn : ∀ {Y Y' : World}, Only w.heap.size Y Y' → X.heap.size ≤ Y.heap.size → (Y.cell? ⟨w.heap.size + 1, 0, none⟩ = some (.func (.func 39) #[] #[.pointer (some ⟨w.heap.size, 0, none⟩)]) ∧ Y.cell? ⟨ps, 0, none⟩ = some (.slice Af lb cf) ∧ Y.cell? ⟨ps, 1, none⟩ = some (.int .i64 (kf : Int))) → (Y'.cell? ⟨w.heap.size + 1, 0, none⟩ = some (.func (.func 39) #[] #[.pointer (some ⟨w.heap.size, 0, none⟩)]) ∧ Y'.cell? ⟨ps, 0, none⟩ = some (.slice Af lb cf) ∧ Y'.cell? ⟨ps, 1, none⟩ = some (.int .i64 (kf : Int))) := fun {Y Y'} ho hs hh =>
          ⟨(World.cell?_of_block (ho.block _ (by show w.heap.size + 1 < _; omega) (by show w.heap.size + 1 ≠ _; omega))).trans hh.1, (World.cell?_of_block (ho.block _ (by show ps < _; omega) hpsw)).trans hh.2.1, (World.cell?_of_block (ho.block _ (by show ps < _; omega) hpsw)).trans hh.2.2⟩
        gi_upto_region 11 with fail
        have hXd : X.heap.size ≤ X.drew.heap.size := Nat.le_refl _
        refine wpIn_round_held (S := fun W => W.cell? ⟨w.heap.size + 1, 0, none⟩ = some (.func (.func 39) #[] #[.pointer (some ⟨w.heap.size, 0, none⟩)]) ∧ W.cell? ⟨ps, 0, none⟩ = some (.slice Af lb cf) ∧ W.cell? ⟨ps, 1, none⟩ = some (.int .i64 (kf : Int))) (by kernel_rfl) (fun ⟨_, _, h⟩ => h) (by kernel_rfl) ⟨lf, c0, c1⟩ (fun hHeld => ?_)
        generalize X.drew = Y0 at *
        refine held_take (i := 0) (v := ?_) rfl (by kernel_rfl) (by kernel_rfl) (by kernel_rfl) (fun _ _ _ h => h) (by rfl) hHeld ?y11_0 ?_
        case y11_0 => (intro w hSw; (try dsimp only at hSw); go_simp; try with_reducible rfl)
        try simp only [Act.put, List.setIfInBounds_toArray, List.set_cons_zero, List.set_cons_succ]
        refine held_take (i := 1) (v := ?_) rfl (by kernel_rfl) (by kernel_rfl) (by kernel_rfl) (fun _ _ _ h => h) (by rfl) hHeld ?y11_1 ?_
        case y11_1 => (intro w hSw; (try dsimp only at hSw); go_simp; try with_reducible rfl)
        try simp only [Act.put, List.setIfInBounds_toArray, List.set_cons_zero, List.set_cons_succ]
        refine held_take (i := 2) (v := ?_) rfl (by kernel_rfl) (by kernel_rfl) (by kernel_rfl) (fun _ _ _ h => h) (by rfl) hHeld ?y11_2 ?_
        case y11_2 => (intro w hSw; (try dsimp only at hSw); go_simp; try with_reducible rfl)
        try simp only [Act.put, List.setIfInBounds_toArray, List.set_cons_zero, List.set_cons_succ]
        refine held_take (i := 3) (v := ?_) rfl (by kernel_rfl) (by kernel_rfl) (by kernel_rfl) (fun _ _ _ h => h) (by rfl) hHeld ?y11_3 ?_
        case y11_3 => (intro w hSw; (try dsimp only at hSw); go_simp; try with_reducible rfl)
        try simp only [Act.put, List.setIfInBounds_toArray, List.set_cons_zero, List.set_cons_succ]
        refine held_take (i := 4) (v := ?_) rfl (by kernel_rfl) (by kernel_rfl) (by kernel_rfl) (fun _ _ _ h => h) (by rfl) hHeld ?y11_4 ?_
        case y11_4 => (intro w hSw; (try dsimp only at hSw); go_simp; try with_reducible rfl)
        try simp only [Act.put, List.setIfInBounds_toArray, List.set_cons_zero, List.set_cons_succ]
        refine held_take (i := 5) (v := ?_) rfl (by kernel_rfl) (by kernel_rfl) (by kernel_rfl) (fun _ _ _ h => h) (by rfl) hHeld ?y11_5 ?_
        case y11_5 => (intro w hSw; (try dsimp only at hSw); go_simp; try with_reducible rfl)
        try simp only [Act.put, List.setIfInBounds_toArray, List.set_cons_zero, List.set_cons_succ]
        refine held_take (i := 6) (v := ?_) rfl (by kernel_rfl) (by kernel_rfl) (by kernel_rfl) (fun _ _ _ h => h) (by rfl) hHeld ?y11_6 ?_
        case y11_6 => (intro w hSw; (try dsimp only at hSw); go_simp; try with_reducible rfl)
        try simp only [Act.put, List.setIfInBounds_toArray, List.set_cons_zero, List.set_cons_succ]
        refine held_take (i := 7) (v := ?_) rfl (by kernel_rfl) (by kernel_rfl) (by kernel_rfl) (fun _ _ _ h => h) (by rfl) hHeld ?y11_7 ?_
        case y11_7 => (intro w hSw; (try dsimp only at hSw); go_simp; try with_reducible rfl)
        try simp only [Act.put, List.setIfInBounds_toArray, List.set_cons_zero, List.set_cons_succ]
        refine held_take (i := 8) (v := ?_) rfl (by kernel_rfl) (by kernel_rfl) (by kernel_rfl) (fun _ _ _ h => h) (by rfl) hHeld ?y11_8 ?_
        case y11_8 => (intro w hSw; (try dsimp only at hSw); go_simp; try with_reducible rfl)
        try simp only [Act.put, List.setIfInBounds_toArray, List.set_cons_zero, List.set_cons_succ]
        refine held_take (i := 9) (v := ?_) rfl (by kernel_rfl) (by kernel_rfl) (by kernel_rfl) (fun _ _ _ h => h) (by rfl) hHeld ?y11_9 ?_
        case y11_9 => (intro w hSw; (try dsimp only at hSw); go_simp; try with_reducible rfl)
        try simp only [Act.put, List.setIfInBounds_toArray, List.set_cons_zero, List.set_cons_succ]
        refine held_take (i := 10) (v := ?_) rfl (by kernel_rfl) (by kernel_rfl) (by kernel_rfl) (fun _ _ _ h => h) (by rfl) hHeld ?y11_10 ?_
        case y11_10 => (intro w hSw; (try dsimp only at hSw); go_simp; try with_reducible rfl)
        try simp only [Act.put, List.setIfInBounds_toArray, List.set_cons_zero, List.set_cons_succ]
        refine held_one (i := 11) (by kernel_rfl) rfl (fun K hK => ?_)
        (refine step_closure (v := .int .i64 (pa : Int)) (x := .int .i64 ((lb : Int) - (kf : Int))) (cap := .pointer (some ⟨w.heap.size, 0, none⟩)) (f := 39) (by rfl) (.tmp 52) (.tmp 62) 3 rfl rfl rfl Try.func39 (by kernel_rfl) (by kernel_rfl) _ HD.out ?_; rintro e Y1 ⟨rfl, hch1, hon1⟩; have hS11 := sOn hon1 hXd hHeld; refine ⟨rfl, ?_⟩)
        refine hK.out _ _ ?_ (fun hHeld => ?_)
        · exact hS11
        clear hK K
        try simp only [Act.put, List.setIfInBounds_toArray, List.set_cons_zero, List.set_cons_succ]
        refine held_take (i := 12) (v := ?_) rfl (by kernel_rfl) (by kernel_rfl) (by kernel_rfl) (fun _ _ _ h => h) (by rfl) hHeld ?y11_12 ?_
        case y11_12 => (intro w hSw; (try dsimp only at hSw); go_simp; try with_reducible rfl)
        try simp only [Act.put, List.setIfInBounds_toArray, List.set_cons_zero, List.set_cons_succ]
        refine wpAnyH_done (by kernel_rfl) ?_ _
        have HA1 := Lib.hid (HA0.out.only hon1 (by obtain ⟨A9, c9, hb9, -⟩ := HC0.out; exact ⟨_, hb9⟩))
        have HC1 := Lib.hid hch1
        have HRD1 := Lib.hid (HRD0.out.only hon1)
        have hX1 : X.heap.size ≤ Y1.heap.size := HRD1.out.size
        have hbd1 : Boxed Y1 (w.heap.size + 1) 70 (fnV w) := (hon1.block _ hbd.lt (by omega)).trans hbd
        clear lf c0 c1
        obtain ⟨lf, c0, c1⟩ := hS11
        have HBD1 := Lib.hid hbd1
        clear hHeld hch1 hon1 HD HC0 HA0 HRD0 hbd hfd hbd1 hXd hwr sOn
        gi_upto_region 12 with fail
        obtain ⟨m, hm⟩ : ∃ m, kf + pa = m := ⟨_, rfl⟩
        have hml : m ≤ lb := by omega
        have hwr : IntKind.i64.wrap ((kf : Int) + (pa : Int)) = (m : Int) := by rw [wrap_small _ (by omega) (by omega)]; omega
        have hsl := slice_head8 Af lb cf m (by omega)
        have HM := Lib.hid hm
        have hBd := (Below.refl Y1.heap.size Y1).drew
        have HA2 := Lib.hid (HA1.out.below hBd)
        have HC2 := Lib.hid (HC1.out.step (Tr.of_below hBd G1))
        have HRD2 := Lib.hid (HRD1.out.below hBd)
        have HBD2 : Hid (Boxed Y1.drew (w.heap.size + 1) 70 (fnV w)) := HBD1
        replace c0 : Y1.drew.cell? ⟨ps, 0, none⟩ = some (.slice Af lb cf) := c0
        replace c1 : Y1.drew.cell? ⟨ps, 1, none⟩ = some (.int .i64 (kf : Int)) := c1
        replace hX1 : X.heap.size ≤ Y1.drew.heap.size := hX1
        clear HA1 HC1 HRD1 HBD1 hBd lf
        refine wpIn_round_late (LateS (fun W => W.cell? ⟨ps, 0, none⟩ = some (.slice Af lb cf) ∧ W.cell? ⟨ps, 1, none⟩ = some (.int .i64 (kf : Int))) 15) (by kernel_rfl) (fun ⟨_, _, h⟩ => h) (by kernel_rfl) ?_
        generalize Y1.drew = Y2 at *
        have hrd : RdB Y2 (.slice Af m cf) (f.b.take m) := by
          have h9 := (HA2.out.files.rows x.2 f HF.out).rd
          rw [show G1.vl.getD x.2 (.pointer none) = .slice Af f.b.length cf from HRW.out] at h9
          exact rd_take h9 m (by rw [HLB.out]; exact hml)
        have HCL := Lib.hid (clone_bytes Y2 (.slice Af m cf) (f.b.take m) hrd (by rw [List.length_take]; omega))
        have hfi2 := HA2.out.files.file x.2 f HF.out
        have hpl2 : ps < Y2.heap.size := by rw [← HBK.out]; exact (Array.getElem?_eq_some_iff.1 hfi2).1
        have hz2 : Y2.frozen? ⟨ps, 0, none⟩ = false := by
          unfold World.frozen?
          rw [← HBK.out, show Y2.heap[G1.blk x.2]? = _ from hfi2]
          simp
        have HTK : Hid ((f.b.take m).length = m) := Lib.hid (by rw [List.length_take, HLB.out]; omega)
        clear hrd hfi2
        refine late_take (i := 0) (v := ?_) rfl (by kernel_rfl) (by kernel_rfl) (by kernel_rfl) (by kernel_rfl) (fun _ _ _ h => h) (by rfl) (LateS.set 0 (by decide)) (.inl ⟨c0, c1⟩) ?z12_0 ?_
        case z12_0 => (intro L W' hL' hSw; have hq := hSw.get (hL' 15 (by kernel_rfl)); clear hSw hL'; obtain ⟨q0, q1⟩ := hq; go_simp; try with_reducible rfl)
        try simp only [Act.put, List.setIfInBounds_toArray, List.set_cons_zero, List.set_cons_succ]
        refine late_take (i := 1) (v := ?_) rfl (by kernel_rfl) (by kernel_rfl) (by kernel_rfl) (by kernel_rfl) (fun _ _ _ h => h) (by rfl) (LateS.set 1 (by decide)) (.inl ⟨c0, c1⟩) ?z12_1 ?_
        case z12_1 => (intro L W' hL' hSw; have hq := hSw.get (hL' 15 (by kernel_rfl)); clear hSw hL'; obtain ⟨q0, q1⟩ := hq; go_simp; try with_reducible rfl)
        try simp only [Act.put, List.setIfInBounds_toArray, List.set_cons_zero, List.set_cons_succ]
        refine late_take (i := 2) (v := ?_) rfl (by kernel_rfl) (by kernel_rfl) (by kernel_rfl) (by kernel_rfl) (fun _ _ _ h => h) (by rfl) (LateS.set 2 (by decide)) (.inl ⟨c0, c1⟩) ?z12_2 ?_
        case z12_2 => (intro L W' hL' hSw; have hq := hSw.get (hL' 15 (by kernel_rfl)); clear hSw hL'; obtain ⟨q0, q1⟩ := hq; go_simp; try with_reducible rfl)
        try simp only [Act.put, List.setIfInBounds_toArray, List.set_cons_zero, List.set_cons_succ]
        refine late_take (i := 3) (v := ?_) rfl (by kernel_rfl) (by kernel_rfl) (by kernel_rfl) (by kernel_rfl) (fun _ _ _ h => h) (by rfl) (LateS.set 3 (by decide)) (.inl ⟨c0, c1⟩) ?z12_3 ?_
        case z12_3 => (intro L W' hL' hSw; have hq := hSw.get (hL' 15 (by kernel_rfl)); clear hSw hL'; obtain ⟨q0, q1⟩ := hq; go_simp; try with_reducible rfl)
        try simp only [Act.put, List.setIfInBounds_toArray, List.set_cons_zero, List.set_cons_succ]
        refine late_take (i := 4) (v := ?_) rfl (by kernel_rfl) (by kernel_rfl) (by kernel_rfl) (by kernel_rfl) (fun _ _ _ h => h) (by rfl) (LateS.set 4 (by decide)) (.inl ⟨c0, c1⟩) ?z12_4 ?_
        case z12_4 => (intro L W' hL' hSw; have hq := hSw.get (hL' 15 (by kernel_rfl)); clear hSw hL'; obtain ⟨q0, q1⟩ := hq; go_simp; try with_reducible rfl)
        try simp only [Act.put, List.setIfInBounds_toArray, List.set_cons_zero, List.set_cons_succ]
        refine late_take (i := 5) (v := ?_) rfl (by kernel_rfl) (by kernel_rfl) (by kernel_rfl) (by kernel_rfl) (fun _ _ _ h => h) (by rfl) (LateS.set 5 (by decide)) (.inl ⟨c0, c1⟩) ?z12_5 ?_
        case z12_5 => (intro L W' hL' hSw; have hq := hSw.get (hL' 15 (by kernel_rfl)); clear hSw hL'; obtain ⟨q0, q1⟩ := hq; go_simp; try with_reducible rfl)
        try simp only [Act.put, List.setIfInBounds_toArray, List.set_cons_zero, List.set_cons_succ]
        refine late_take (i := 6) (v := ?_) rfl (by kernel_rfl) (by kernel_rfl) (by kernel_rfl) (by kernel_rfl) (fun _ _ _ h => h) (by rfl) (LateS.set 6 (by decide)) (.inl ⟨c0, c1⟩) ?z12_6 ?_
        case z12_6 => (intro L W' hL' hSw; have hq := hSw.get (hL' 15 (by kernel_rfl)); clear hSw hL'; obtain ⟨q0, q1⟩ := hq; go_simp; try with_reducible rfl)
        try simp only [Act.put, List.setIfInBounds_toArray, List.set_cons_zero, List.set_cons_succ]
        refine late_take (i := 7) (v := ?_) rfl (by kernel_rfl) (by kernel_rfl) (by kernel_rfl) (by kernel_rfl) (fun _ _ _ h => h) (by rfl) (LateS.set 7 (by decide)) (.inl ⟨c0, c1⟩) ?z12_7 ?_
        case z12_7 => (intro L W' hL' hSw; have hq := hSw.get (hL' 15 (by kernel_rfl)); clear hSw hL'; obtain ⟨q0, q1⟩ := hq; go_simp; try with_reducible rfl)
        try simp only [Act.put, List.setIfInBounds_toArray, List.set_cons_zero, List.set_cons_succ]
        refine late_take (i := 8) (v := ?_) rfl (by kernel_rfl) (by kernel_rfl) (by kernel_rfl) (by kernel_rfl) (fun _ _ _ h => h) (by rfl) (LateS.set 8 (by decide)) (.inl ⟨c0, c1⟩) ?z12_8 ?_
        case z12_8 => (intro L W' hL' hSw; have hq := hSw.get (hL' 15 (by kernel_rfl)); clear hSw hL'; obtain ⟨q0, q1⟩ := hq; go_simp; try with_reducible rfl)
        try simp only [Act.put, List.setIfInBounds_toArray, List.set_cons_zero, List.set_cons_succ]
        refine late_take (i := 9) (v := ?_) rfl (by kernel_rfl) (by kernel_rfl) (by kernel_rfl) (by kernel_rfl) (fun _ _ _ h => h) (by rfl) (LateS.set 9 (by decide)) (.inl ⟨c0, c1⟩) ?z12_9 ?_
        case z12_9 => (intro L W' hL' hSw; have hq := hSw.get (hL' 15 (by kernel_rfl)); clear hSw hL'; obtain ⟨q0, q1⟩ := hq; go_simp; try with_reducible rfl)
        try simp only [Act.put, List.setIfInBounds_toArray, List.set_cons_zero, List.set_cons_succ]
        refine late_take (i := 10) (v := ?_) rfl (by kernel_rfl) (by kernel_rfl) (by kernel_rfl) (by kernel_rfl) (fun _ _ _ h => h) (by rfl) (LateS.set 10 (by decide)) (.inl ⟨c0, c1⟩) ?z12_10 ?_
        case z12_10 => (intro L W' hL' hSw; have hq := hSw.get (hL' 15 (by kernel_rfl)); clear hSw hL'; obtain ⟨q0, q1⟩ := hq; go_simp; try with_reducible rfl)
        try simp only [Act.put, List.setIfInBounds_toArray, List.set_cons_zero, List.set_cons_succ]
        refine late_take (i := 11) (v := ?_) rfl (by kernel_rfl) (by kernel_rfl) (by kernel_rfl) (by kernel_rfl) (fun _ _ _ h => h) (by rfl) (LateS.set 11 (by decide)) (.inl ⟨c0, c1⟩) ?z12_11 ?_
        case z12_11 => (intro L W' hL' hSw; have hq := hSw.get (hL' 15 (by kernel_rfl)); clear hSw hL'; obtain ⟨q0, q1⟩ := hq; go_simp; try with_reducible rfl)
        try simp only [Act.put, List.setIfInBounds_toArray, List.set_cons_zero, List.set_cons_succ]
        refine late_one (i := 12) (by kernel_rfl) rfl (by rfl) (fun K hK => ?_)
        refine wp_of_step (ops := #[]) (by rfl) ?_
        refine step_call (by rfl) _ _ (by rfl) Try.func42 (by kernel_rfl) (by kernel_rfl) (by simp only [List.map_toArray, List.map_cons, List.map_nil]; rfl) (HCL.out.mono ?_)
        rintro e Y3 ⟨v', rfl, ho3, hb3⟩
        obtain ⟨A', c', hv', hcc'⟩ := own_shape ho3
        rw [HTK.out] at hv' hcc'
        subst hv'
        refine ⟨_, rfl, ?_⟩
        have c03 : Y3.cell? ⟨ps, 0, none⟩ = some (.slice Af lb cf) := (World.cell?_of_block (hb3.block ps hpl2)).trans c0
        have c13 : Y3.cell? ⟨ps, 1, none⟩ = some (.int .i64 (kf : Int)) := (World.cell?_of_block (hb3.block ps hpl2)).trans c1
        have hz3 : Y3.frozen? ⟨ps, 0, none⟩ = false := (World.frozen?_of_block (hb3.block ps hpl2)).trans hz2
        refine hK.out _ _ (.inl ⟨c03, c13⟩) ?_
        clear hK K
        try simp only [Act.put, List.setIfInBounds_toArray, List.set_cons_zero, List.set_cons_succ]
        refine late_take (i := 13) (v := ?_) rfl (by kernel_rfl) (by kernel_rfl) (by kernel_rfl) (by kernel_rfl) (fun _ _ _ h => h) (by rfl) (LateS.set 13 (by decide)) (.inl ⟨c03, c13⟩) ?z12_13 ?_
        case z12_13 => (intro L W' hL' hSw; clear hSw hL'; go_simp; try with_reducible rfl)
        try simp only [Act.put, List.setIfInBounds_toArray, List.set_cons_zero, List.set_cons_succ]
        refine late_take (i := 14) (v := ?_) rfl (by kernel_rfl) (by kernel_rfl) (by kernel_rfl) (by kernel_rfl) (fun _ _ _ h => h) (by rfl) (LateS.set 14 (by decide)) (.inl ⟨c03, c13⟩) ?z12_14 ?_
        case z12_14 => (intro L W' hL' hSw; clear hSw hL'; go_simp; try with_reducible rfl)
        try simp only [Act.put, List.setIfInBounds_toArray, List.set_cons_zero, List.set_cons_succ]
        refine late_one (i := 15) (by kernel_rfl) rfl (by rfl) (fun K hK => ?_)
        go_simp
        refine hK.out _ _ (.inr rfl) ?_
        clear hK K
        try simp only [Act.put, List.setIfInBounds_toArray, List.set_cons_zero, List.set_cons_succ]
        refine late_done (by kernel_rfl) ?_ _
        have hx2 : x.2 < fs.length := (List.getElem?_eq_some_iff.1 HF.out).1
        have hTU := FTurn.of_clone HA2.out (i := x.2) (f := f) HF.out ho3 hb3 (by have h1 := HA2.out.lo.1; have h2 := HA2.out.p_lt; omega) (by_take (HA2.out.files.bys x.2 f HF.out) m)
        rw [HBK.out] at hTU
        have HA4 := Lib.hid (HA2.out.turn hx2 hTU)
        have HC4 := Lib.hid (HC2.out.step (Tr.turnW HA2.out hx2 hTU))
        have HRD4 := Lib.hid ((HRD2.out.below hb3).set 0 (.slice A' m c'))
        have HBD4 : Hid (Boxed (Y3.setCell ⟨ps, 0, none⟩ (.slice A' m c')) (w.heap.size + 1) 70 (fnV w)) := Lib.hid ((Below.heap_setCell Y3 ⟨ps, 0, none⟩ _ _ (Ne.symm hpsf)).trans ((hb3.block _ HBD2.out.lt).trans HBD2.out))
        have hfi4 : (Y3.setCell ⟨ps, 0, none⟩ (.slice A' m c')).heap[ps]? = some (.cells #[.slice A' m c', .int .i64 (f.kept : Int)] 79 (0, 0)) := by
          have := hTU.cell
          rwa [HBK.out] at this
        have HVB : Hid (∀ g, (Value.slice A' m c').ownBlock = some g → X.heap.size ≤ g) := Lib.hid (fun g hg => Nat.le_trans hX1 (World.ownsRow.lt ho3 g hg).1)
        have hG2 : ({ G1 with vl := G1.vl.set x.2 (.slice A' m c') } : DG).row x.2 = .slice A' m c' := getD_set_same _ _ _ (by have := HA2.out.files.nv; rw [this]; exact hx2)
        have HG2 := Lib.hid hG2
        have c04 := cell_of_block hfi4 0 _ rfl
        have lf4 := HBD4.out.cell
        have hX4 : X.heap.size ≤ (Y3.setCell ⟨ps, 0, none⟩ (.slice A' m c')).heap.size := HRD4.out.size
        have HFI4 := Lib.hid hfi4
        clear c03 c13 hz3 c0 c1 hwr hsl HA2 HC2 HRD2 HBD2 HCL hpl2 hz2 ho3 hb3 hTU hfi4 hG2 hX1 hcf
        generalize Y3.setCell ⟨ps, 0, none⟩ (.slice A' m c') = Y4 at *
        gi_upto_region 13 with fail
        obtain ⟨k1, hk1⟩ : ∃ k1, k1 + pb = m := ⟨m - pb, by omega⟩
        have hwr : IntKind.i64.wrap ((m : Int) - (pb : Int)) = (k1 : Int) := by rw [wrap_small _ (by omega) (by omega)]; omega
        have HK1 := Lib.hid hk1
        have hBd := (Below.refl Y4.heap.size Y4).drew
        have HA5 := Lib.hid (HA4.out.below hBd)
        have HC5 := Lib.hid (HC4.out.step (Tr.of_below hBd { G1 with vl := G1.vl.set x.2 (.slice A' m c') }))
        have HRD5 := Lib.hid (HRD4.out.below hBd)
        have HBD5 : Hid (Boxed Y4.drew (w.heap.size + 1) 70 (fnV w)) := HBD4
        have HFI5 : Hid (Y4.drew.heap[ps]? = some (.cells #[.slice A' m c', .int .i64 (f.kept : Int)] 79 (0, 0))) := HFI4
        replace c04 : Y4.drew.cell? ⟨ps, 0, none⟩ = some (.slice A' m c') := c04
        replace lf4 : Y4.drew.cell? ⟨w.heap.size + 1, 0, none⟩ = some (.func (.func 39) #[] #[.pointer (some ⟨w.heap.size, 0, none⟩)]) := lf4
        replace hX4 : X.heap.size ≤ Y4.drew.heap.size := hX4
        clear HA4 HC4 HRD4 HBD4 HFI4 hBd
        refine wpIn_round_held (S := fun W => W.cell? ⟨w.heap.size + 1, 0, none⟩ = some (.func (.func 39) #[] #[.pointer (some ⟨w.heap.size, 0, none⟩)]) ∧ W.cell? ⟨ps, 0, none⟩ = some (.slice A' m c')) (by kernel_rfl) (fun ⟨_, _, h⟩ => h) (by kernel_rfl) ⟨lf4, c04⟩ (fun hHeld => ?_)
        generalize Y4.drew = Y5 at *
        have hD := disk_choose Y5 w.heap.size pa cs3 _ (by omega) HC5.out
        rw [HPB.out] at hD
        dsimp only at hD
        have HD := Lib.hid hD
        clear hD c04 lf4 hX4
        refine held_take (i := 0) (v := ?_) rfl (by kernel_rfl) (by kernel_rfl) (by kernel_rfl) (fun _ _ _ h => h) (by rfl) hHeld ?y13_0 ?_
        case y13_0 => (intro w hSw; (try dsimp only at hSw); go_simp; try with_reducible rfl)
        try simp only [Act.put, List.setIfInBounds_toArray, List.set_cons_zero, List.set_cons_succ]
        refine held_take (i := 1) (v := ?_) rfl (by kernel_rfl) (by kernel_rfl) (by kernel_rfl) (fun _ _ _ h => h) (by rfl) hHeld ?y13_1 ?_
        case y13_1 => (intro w hSw; (try dsimp only at hSw); go_simp; try with_reducible rfl)
        try simp only [Act.put, List.setIfInBounds_toArray, List.set_cons_zero, List.set_cons_succ]
        refine held_take (i := 2) (v := ?_) rfl (by kernel_rfl) (by kernel_rfl) (by kernel_rfl) (fun _ _ _ h => h) (by rfl) hHeld ?y13_2 ?_
        case y13_2 => (intro w hSw; (try dsimp only at hSw); go_simp; try with_reducible rfl)
        try simp only [Act.put, List.setIfInBounds_toArray, List.set_cons_zero, List.set_cons_succ]
        refine held_take (i := 3) (v := ?_) rfl (by kernel_rfl) (by kernel_rfl) (by kernel_rfl) (fun _ _ _ h => h) (by rfl) hHeld ?y13_3 ?_
        case y13_3 => (intro w hSw; (try dsimp only at hSw); go_simp; try with_reducible rfl)
        try simp only [Act.put, List.setIfInBounds_toArray, List.set_cons_zero, List.set_cons_succ]
        refine held_take (i := 4) (v := ?_) rfl (by kernel_rfl) (by kernel_rfl) (by kernel_rfl) (fun _ _ _ h => h) (by rfl) hHeld ?y13_4 ?_
        case y13_4 => (intro w hSw; (try dsimp only at hSw); go_simp; try with_reducible rfl)
        try simp only [Act.put, List.setIfInBounds_toArray, List.set_cons_zero, List.set_cons_succ]
        refine held_take (i := 5) (v := ?_) rfl (by kernel_rfl) (by kernel_rfl) (by kernel_rfl) (fun _ _ _ h => h) (by rfl) hHeld ?y13_5 ?_
        case y13_5 => (intro w hSw; (try dsimp only at hSw); go_simp; try with_reducible rfl)
        try simp only [Act.put, List.setIfInBounds_toArray, List.set_cons_zero, List.set_cons_succ]
        refine held_take (i := 6) (v := ?_) rfl (by kernel_rfl) (by kernel_rfl) (by kernel_rfl) (fun _ _ _ h => h) (by rfl) hHeld ?y13_6 ?_
        case y13_6 => (intro w hSw; (try dsimp only at hSw); go_simp; try with_reducible rfl)
        try simp only [Act.put, List.setIfInBounds_toArray, List.set_cons_zero, List.set_cons_succ]
        refine held_take (i := 7) (v := ?_) rfl (by kernel_rfl) (by kernel_rfl) (by kernel_rfl) (fun _ _ _ h => h) (by rfl) hHeld ?y13_7 ?_
        case y13_7 => (intro w hSw; (try dsimp only at hSw); go_simp; try with_reducible rfl)
        try simp only [Act.put, List.setIfInBounds_toArray, List.set_cons_zero, List.set_cons_succ]
        refine held_take (i := 8) (v := ?_) rfl (by kernel_rfl) (by kernel_rfl) (by kernel_rfl) (fun _ _ _ h => h) (by rfl) hHeld ?y13_8 ?_
        case y13_8 => (intro w hSw; (try dsimp only at hSw); go_simp; try with_reducible rfl)
        try simp only [Act.put, List.setIfInBounds_toArray, List.set_cons_zero, List.set_cons_succ]
        refine held_take (i := 9) (v := ?_) rfl (by kernel_rfl) (by kernel_rfl) (by kernel_rfl) (fun _ _ _ h => h) (by rfl) hHeld ?y13_9 ?_
        case y13_9 => (intro w hSw; (try dsimp only at hSw); go_simp; try with_reducible rfl)
        try simp only [Act.put, List.setIfInBounds_toArray, List.set_cons_zero, List.set_cons_succ]
        refine held_take (i := 10) (v := ?_) rfl (by kernel_rfl) (by kernel_rfl) (by kernel_rfl) (fun _ _ _ h => h) (by rfl) hHeld ?y13_10 ?_
        case y13_10 => (intro w hSw; (try dsimp only at hSw); go_simp; try with_reducible rfl)
        try simp only [Act.put, List.setIfInBounds_toArray, List.set_cons_zero, List.set_cons_succ]
        refine held_one (i := 11) (by kernel_rfl) rfl (fun K hK => ?_)
        (refine step_closure (v := .int .i64 (pb : Int)) (x := .int .i64 (pa : Int)) (cap := .pointer (some ⟨w.heap.size, 0, none⟩)) (f := 39) (by rfl) (.tmp 88) (.tmp 89) 3 rfl rfl rfl Try.func39 (by kernel_rfl) (by kernel_rfl) _ HD.out ?_; rintro e Y6 ⟨rfl, hch6, hon6⟩; have hS11 : Y6.cell? ⟨w.heap.size + 1, 0, none⟩ = some (.func (.func 39) #[] #[.pointer (some ⟨w.heap.size, 0, none⟩)]) ∧ Y6.cell? ⟨ps, 0, none⟩ = some (.slice A' m c') := ⟨(World.cell?_of_block (hon6.block _ HBD5.out.lt (by show w.heap.size + 1 ≠ _; omega))).trans hHeld.1, (World.cell?_of_block (hon6.block ps (Array.getElem?_eq_some_iff.1 HFI5.out).1 hpsw)).trans hHeld.2⟩; refine ⟨rfl, ?_⟩)
        refine hK.out _ _ ?_ (fun hHeld => ?_)
        · exact hS11
        clear hK K
        try simp only [Act.put, List.setIfInBounds_toArray, List.set_cons_zero, List.set_cons_succ]
        have HA6 := Lib.hid (HA5.out.only hon6 (by obtain ⟨A9, c9, hb9, -⟩ := HC5.out; exact ⟨_, hb9⟩))
        have HC6 := Lib.hid hch6
        have HRD6 := Lib.hid (HRD5.out.only hon6)
        have HFI6 : Hid (Y6.heap[ps]? = some (.cells #[.slice A' m c', .int .i64 (f.kept : Int)] 79 (0, 0))) := Lib.hid ((hon6.block ps (Array.getElem?_eq_some_iff.1 HFI5.out).1 hpsw).trans HFI5.out)
        have HBD6 : Hid (Boxed Y6 (w.heap.size + 1) 70 (fnV w)) := Lib.hid ((hon6.block _ HBD5.out.lt (by omega)).trans HBD5.out)
        have hfg : (fs.set x.2 ⟨f.b.take m, f.kept⟩)[x.2]? = some ⟨f.b.take m, f.kept⟩ := List.getElem?_set_self (List.getElem?_eq_some_iff.1 HF.out).1
        have hrow6 : OwnB Y6 B (.slice A' m c') (f.b.take m) := by
          have h9 := HA6.out.files.rows x.2 _ hfg
          rw [show ({ G1 with vl := G1.vl.set x.2 (.slice A' m c') } : DG).vl.getD x.2 (.pointer none) = .slice A' m c' from HG2.out] at h9
          exact h9
        obtain ⟨A2, c2, Y7, hsl, hclr, hown7, hgr7⟩ := clear_at Y6 hrow6 HTK.out k1 pb hk1
        have HFG := Lib.hid hfg
        have HOW7 := Lib.hid hown7
        have HGR7 := Lib.hid hgr7
        have hS14 : Y7.cell? ⟨w.heap.size + 1, 0, none⟩ = some (.func (.func 39) #[] #[.pointer (some ⟨w.heap.size, 0, none⟩)]) ∧ Y7.cell? ⟨ps, 0, none⟩ = some (.slice A' m c') := ⟨(World.cell?_of_block (hgr7.block _ HBD6.out.lt (fun e => by have := HVB.out _ e.symm; have h2 : w.heap.size + 1 < X.heap.size := hcl1; simp at this; omega))).trans hHeld.1, (World.cell?_of_block (hgr7.block ps (Array.getElem?_eq_some_iff.1 HFI6.out).1 (fun e => by have := HVB.out _ e.symm; omega))).trans hHeld.2⟩
        have HS14 := Lib.hid hS14
        clear hch6 hon6 hS11 hfg hrow6 hown7 hgr7 hS14 HA5 HC5 HRD5 HBD5 HFI5 HD
        refine held_take (i := 12) (v := ?_) rfl (by kernel_rfl) (by kernel_rfl) (by kernel_rfl) (fun _ _ _ h => h) (by rfl) hHeld ?y13_12 ?_
        case y13_12 => (intro w hSw; (try dsimp only at hSw); go_simp; try with_reducible rfl)
        try simp only [Act.put, List.setIfInBounds_toArray, List.set_cons_zero, List.set_cons_succ]
        refine held_take (i := 13) (v := ?_) rfl (by kernel_rfl) (by kernel_rfl) (by kernel_rfl) (fun _ _ _ h => h) (by rfl) hHeld ?y13_13 ?_
        case y13_13 => (intro w hSw; (try dsimp only at hSw); go_simp; try with_reducible rfl)
        try simp only [Act.put, List.setIfInBounds_toArray, List.set_cons_zero, List.set_cons_succ]
        refine held_one (i := 14) (by kernel_rfl) rfl (fun K hK => ?_)
        (have hS14 := HS14.out; go_simp)
        refine hK.out _ _ ?_ (fun hHeld => ?_)
        · exact hS14
        clear hK K
        try simp only [Act.put, List.setIfInBounds_toArray, List.set_cons_zero, List.set_cons_succ]
        refine wpAnyH_done (by kernel_rfl) ?_ _
        obtain ⟨lf7, c07⟩ := HS14.out
        have hz7 : Y7.frozen? ⟨ps, 1, none⟩ = false := by
          unfold World.frozen?
          rw [(show Y7.heap[ps]? = Y6.heap[ps]? from HGR7.out.block ps (Array.getElem?_eq_some_iff.1 HFI6.out).1 (fun e => by have := HVB.out _ e.symm; omega)), HFI6.out]
          simp
        have c17 : Y7.cell? ⟨ps, 1, none⟩ = some (.int .i64 (f.kept : Int)) := by
          have h9 : Y7.heap[ps]? = Y6.heap[ps]? := HGR7.out.block ps (Array.getElem?_eq_some_iff.1 HFI6.out).1 (fun e => by have := HVB.out _ e.symm; omega)
          exact cell_of_block (h9.trans HFI6.out) 1 _ rfl
        clear hHeld hwr hsl hclr HS14 lf7
        gi_wp2_with fail
        have hx2 : x.2 < fs.length := (List.getElem?_eq_some_iff.1 HF.out).1
        have hTU := FTurn.of_clear HA6.out (i := x.2) HFG.out (by rw [HG2.out]; exact HOW7.out) (by rw [HG2.out]; exact HGR7.out) (by_append (by_take (by_take (HX.out.at_.files.bys x.2 f HF.out) m) k1) (by_zeros pb)) m
        rw [HG2.out, show ({ G1 with vl := G1.vl.set x.2 (.slice A' m c') } : DG).blk x.2 = ps from HBK.out] at hTU
        have hx3 : x.2 < (fs.set x.2 ⟨f.b.take m, f.kept⟩).length := by rw [List.length_set]; exact hx2
        have hat := HA6.out.turn hx3 hTU
        have hkm : f.kept + pa = m := by rw [HKF.out]; exact HM.out
        refine CI.next (v' := .slice A' m c') HX.out HPR.out HG.out HF.out HPA.out HPB.out (by rw [HPS.out]; exact (HRD6.out.grown HGR7.out (fun g hg => HVB.out g hg)).set 1 (.int .i64 (m : Int))) ?_ rfl HVB.out (HC6.out.step (Tr.turnW HA6.out hx3 hTU))
        have h9 : (setFile { { d with failAt := 0, offAt := 0, names := mk } with files := fs.set x.2 ⟨f.b.take m, f.kept⟩ } x.2 ⟨(f.b.take m).take k1 ++ List.replicate pb 0, m⟩) = { { d with failAt := 0, offAt := 0, names := mk } with files := fs.set x.2 ⟨fellB f pa pb, (f.b.take (f.kept + pa)).length⟩ } := by
          unfold setFile
          simp only
          rw [List.set_set, fellB_eq f pa pb m k1 hkm (by rw [HLB.out]; omega) HK1.out, hkm, HTK.out]
        rw [← h9]
        exact hat
theorem disk_crash (h : At B G d w) (ho : d.Ok) (v : Value) (cs : List Int) (hv : RdB w v cs) (hby : By cs) (hfar : Far G v) :
    Calls Try.prog 17 #[dp G, v] w fun e w' => (∃ u, e = .returned u) ∧ ∃ G', At B G' (d.crash cs) w' ∧ Tr w G w' G' := callsIn_wide.1 (crash_in 3 h ho v cs hv hby hfar)
end Go.Proofs.Ytmdecbockpgagaa
