import Derived.Test.YtmdecbockpgagaaDiskLay
import Derived.Test.YtmdecbockpgagaaHeld2
import Derived.Maps.AppendAt
import Derived.StillTailTactics
import Derived.Carry
/- disk: off, step. -/
namespace Go.Proofs.Ytmdecbockpgagaa
open Go.RowKit Go.Maps Go.Proofs.YtmdecbockpgagaaW.PrintWords Go.Proofs.YtmdecbockpgagaaW.PrintMore
variable {B : Nat} {G : DG} {d : DS} {w w' : World}

abbrev dp (G : DG) : Value := .pointer (some ⟨G.p, 0, none⟩)
set_option maxHeartbeats 1000000 in
theorem disk_off (h : At B G d w) (ho : d.Ok) : Calls Try.prog 52 #[dp G] w fun e w' => e = .returned (.bool d.off) ∧ Below w.heap.size w w' := by
  have h6 := h.l6
  have h4 := h.l4
  have ⟨s0, s1⟩ := ho.steps
  have ⟨o0, o1⟩ := ho.offAt
  have hoff : d.off = (decide (0 < d.offAt) && decide (d.offAt ≤ d.steps)) := rfl
  have HOFF := Lib.hid hoff
  clear hoff
  generalize d.off = r at HOFF ⊢
  generalize d.steps = st at h4 s0 s1 HOFF
  generalize d.offAt = oa at h6 o0 o1 HOFF
  clear h
  go_enter Try.func52, Try.ntmps52
  by_cases h1 : 0 < oa
  · by_cases h2 : oa ≤ st
    · go_wp2_with fail
      go_quiet (fail)
      go_wp2_with fail
      go_ret
      exact ⟨by rw [HOFF.out, decide_eq_true h1, decide_eq_true h2]; rfl, pw_below_drewN (Below.refl _ _) _⟩
    · go_wp2_with fail
      go_quiet (fail)
      go_wp2_with fail
      go_ret
      exact ⟨by rw [HOFF.out, decide_eq_true h1, decide_eq_false (by omega)]; rfl, pw_below_drewN (Below.refl _ _) _⟩
  · obtain rfl : oa = 0 := by omega
    clear h1
    go_wp2_with fail
    go_quiet (fail)
    go_wp2_with fail
    go_ret
    exact ⟨by rw [HOFF.out, decide_eq_false (by omega)]; rfl, pw_below_drewN (Below.refl _ _) _⟩

theorem At.drew (h : At B G d w) (n : Nat) : At B G d (w.drewN n) := h.below (pw_below_drewN (Below.refl _ _) n)
/-- Names lie elsewhere than the disk. -/
theorem RdL.setP (h : At B G d w) {v : Value} {ss : List (List UInt8)} (hv : RdL w v ss) (j : Nat) (u : Value) : RdL (w.setCell ⟨G.p, j, none⟩ u) v ss := by
  obtain ⟨A, cap, rfl, hc, hr⟩ := hv
  refine ⟨A, cap, rfl, hc, fun h0 => ?_⟩
  obtain ⟨g, rfl, hg, hr⟩ := hr h0
  have hne : G.p ≠ g := by
    rintro rfl
    have h1 := hr 0 ss[0] (List.getElem?_eq_getElem h0)
    rw [h.l0] at h1
    cases h1
  refine ⟨g, rfl, by unfold World.setCell; simp; exact hg, fun j x hx => ?_⟩
  have h1 := hr j x hx
  unfold World.cell? World.setCell at *
  simp only [Array.getElem?_modify]
  rw [if_neg hne]
  exact h1

set_option maxHeartbeats 1000000 in
theorem disk_step (h : At B G d w) (ho : d.Ok) (hst : d.steps < 1000000000) {v : Value} {ss : List (List UInt8)} (hv : RdL w v ss) (hs : ∀ s ∈ ss, s.length ≤ 1000000) (hn : ss.length ≤ 1000000) :
    Calls Try.prog 44 #[dp G, v] w fun e w' => e = .returned (.int .i64 (d.tick.code ss)) ∧ At B G d.tick w' ∧ Tr w G w' G := by
  have h4 := h.l4
  have hz := h.thaw 4
  have ⟨s0, s1⟩ := ho.steps
  have HA := Lib.hid h.tick
  have HOK := Lib.hid (Ok.tick ho hst)
  have HT := Lib.hid (Tr.setCell w G 4 (.int .i64 (d.steps + 1)))
  have HV := Lib.hid (hv.setP h 4 (.int .i64 (d.steps + 1)))
  have HC : Hid (d.tick.code ss = if d.tick.off then 203 else if d.tick.steps = d.tick.failAt then 202 else if ss.all nameB then 0 else 200) := Lib.hid rfl
  have HSS := Lib.hid hs
  have HNN := Lib.hid hn
  clear h hv hs hn ho
  generalize d.tick.code ss = c at HC ⊢
  go_enter Try.func44, Try.ntmps44
  go_wp2_with fail
  have HF := Lib.hid (disk_off HA.out HOK.out)
  generalize w.setCell ⟨G.p, 4, none⟩ (.int .i64 (d.steps + 1)) = w1 at *
  refine HF.out.mono ?_
  rintro e w2 ⟨rfl, hb⟩
  have HA2 := Lib.hid (HA.out.below hb)
  have HT2 := Lib.hid (HT.out.then_below hb)
  have HV2 := Lib.hid (HV.out.below hb)
  clear HF HA HT HV hb hz h4
  generalize hof : d.tick.off = of at HC
  cases of with
  | true =>
    go_wp2_with fail
    go_ret
    exact ⟨by rw [show c = 203 from HC.out.trans (if_pos trivial)]; rfl, HA2.out, HT2.out⟩
  | false =>
    have l4 := HA2.out.l4
    have l5 := HA2.out.l5
    clear hof
    have ⟨t0, t1⟩ := HOK.out.steps
    have ⟨f0, f1⟩ := HOK.out.failAt
    generalize d.tick.steps = st at *
    generalize d.tick.failAt = fa at *
    by_cases he : st = fa
    · subst he
      go_wp2_with fail
      go_quiet (fail)
      go_wp2_with fail
      go_ret
      exact ⟨by rw [show c = 202 from HC.out.trans ((if_neg (by decide)).trans (if_pos trivial))]; rfl, HA2.out.drew _, HT2.out.then_below (pw_below_drewN (Below.refl _ _) _)⟩
    · have hne : (st == fa) = false := beq_eq_false_iff_ne.2 he
      go_wp2_with fail
      go_quiet (fail)
      go_wp2_with fail
      have HA3 := Lib.hid (HA2.out.drew nq)
      have HT3 := Lib.hid (HT2.out.then_below (pw_below_drewN (Below.refl _ _) nq))
      have HF := Lib.hid (disk_contains ss HSS.out HNN.out (w2.drewN nq) v (HV2.out.below (pw_below_drewN (Below.refl _ _) nq)))
      generalize w2.drewN nq = w3 at *
      refine HF.out.mono ?_
      rintro e w4 ⟨rfl, hb⟩
      have HA4 := Lib.hid (HA3.out.below hb)
      have HT4 := Lib.hid (HT3.out.then_below hb)
      have HC2 := Lib.hid (HC.out.trans ((if_neg (by decide)).trans (if_neg he)))
      clear HF HA3 HT3 hb HC
      generalize ss.all nameB = q at *
      cases q with
      | true =>
        go_wp2_with fail
        go_ret
        exact ⟨by rw [show c = 0 from HC2.out.trans (if_pos trivial)]; rfl, HA4.out, HT4.out⟩
      | false =>
        go_wp2_with fail
        go_ret
        exact ⟨by rw [show c = 200 from HC2.out.trans (if_neg (by decide))]; rfl, HA4.out, HT4.out⟩
end Go.Proofs.Ytmdecbockpgagaa

/- disk: opens. -/
namespace Go.Proofs.Ytmdecbockpgagaa
open Go.RowKit Go.Maps Go.Proofs.YtmdecbockpgagaaW.PrintWords Go.Proofs.YtmdecbockpgagaaW.PrintMore
variable {B : Nat} {G : DG} {d : DS} {w w' : World}

def encN (s : List UInt8) : Value := .string (S s)
theorem RdL.reads {v : Value} {ss : List (List UInt8)} (h : RdL w v ss) (hm : ss.length ≤ 1000000) : ∃ A cap, v = .slice A ss.length cap ∧ ReadsOf encN [] w A ss.length ss := by
  obtain ⟨A, cap, rfl, hc, hr⟩ := h
  refine ⟨A, cap, rfl, rfl, by omega, fun h0 => ?_⟩
  obtain ⟨g, rfl, hg, hr⟩ := hr h0
  exact ⟨_, rfl, fun j hj => by
    rw [add_plain, List.getD_eq_getElem?_getD, List.getElem?_eq_getElem hj]
    exact hr j _ (List.getElem?_eq_getElem hj)⟩
theorem own_name (w : World) (s : List UInt8) : (w.alloc (.cells #[.string (S s)] 9)).ownsRow w.heap.size 9 1 (.slice (some ⟨w.heap.size, 0, none⟩) 1 1) [s].length (encs encN [s]) := own_lit_of (enc := encN) w w.heap.size 9 [s] (Nat.le_refl _) (by simp)
theorem ok_tick_names : d.tick.names = d.names := rfl
theorem disk_lookup (h : At B G d w) (s : List UInt8) (hs : s.length ≤ 1000000) : (Instr.lookup TM (.map (some G.mn)) (.string (S s)) false).run Try.prog w = .ok (vOf ((mlk d.names s).map G.blk)) w := by
  have := h.names.look s hs
  rwa [nmB_lk] at this

set_option maxHeartbeats 2000000 in
theorem disk_opens (h : At B G d w) (ho : d.Ok) (hst : d.steps < 1000000000) (s : List UInt8) (hs : s.length ≤ 1000000) {vo : Value} {so : List (List UInt8)} (hv : RdL w vo so) (hso : ∀ s ∈ so, s.length ≤ 1000000) (hn : so.length ≤ 1000) :
    Calls Try.prog 46 #[dp G, .string (S s), vo] w fun e w' =>
      (∃ fp : Option Nat, e = .returned (.tuple #[vOf fp, .int .i64 (d.tick.open_ s so)]) ∧ (d.tick.open_ s so = 0 → ∃ i, mlk d.names s = some i ∧ fp = some (G.blk i))) ∧ At B G d.tick w' ∧ Tr w G w' G := by
  obtain ⟨A, cap, rfl, hR⟩ := hv.reads (by omega)
  have HRb := Lib.hid (hR.below ((Below.refl _ w).alloc (Nat.le_refl _) (.cells #[.string (S s)] 9)))
  have HO := Lib.hid (own_name w s)
  have HB0 := Lib.hid ((Below.refl w.heap.size w).alloc (Nat.le_refl _) (.cells #[.string (S s)] 9))
  have HH := Lib.hid h
  have HSS : Hid (∀ x ∈ s :: so, x.length ≤ 1000000) := Lib.hid (fun x hx => by
    rcases List.mem_cons.1 hx with rfl | hx
    · exact hs
    · exact hso x hx)
  have HC : Hid (d.tick.open_ s so = if d.tick.code (s :: so) ≠ 0 then d.tick.code (s :: so) else if (mlk d.names s).isNone then 200 else 0) := Lib.hid rfl
  clear hv hR hso
  generalize d.tick.open_ s so = c at HC ⊢
  go_enter Try.func46, Try.ntmps46
  go_wp2_with (at_builtin; refine print_append_row_of (w0 := w) encN [] w.heap.size rfl _ _ _ _ (.string ByteArray.empty) 16 rfl Try.underlying93 info9 rfl (by omega) (fun _ => rfl) _ [s] so A so.length cap rfl rfl HO.out HRb.out HB0.out (by simp) (by simp; omega) ?_; intro v1 w1 ho1 hb1 hg1 hat1)
  have HL := Lib.hid (OwnS.rd (base := w.heap.size) (ss := [s] ++ so) ho1)
  have HA1 := Lib.hid (HH.out.below hb1)
  have HT1 := Lib.hid (Tr.of_below hb1 G)
  have HF := Lib.hid (disk_step HA1.out ho hst HL.out HSS.out (by simp; omega))
  clear ho1 hb1 hg1 hat1 HO HRb HB0
  go_wp2_with fail
  refine HF.out.mono ?_
  rintro e w2 ⟨rfl, ha, ht⟩
  have HA2 := Lib.hid ha
  have HT2 := Lib.hid (HT1.out.trans ht)
  clear HF HA1 HT1 HL ha ht
  generalize hk : d.tick.code ([s] ++ so) = k at *
  have hk' : d.tick.code (s :: so) = k := hk
  rw [hk'] at HC
  clear hk hk'
  by_cases h0 : k = 0
  · subst h0
    have h1 := HA2.out.l1
    have hlk := disk_lookup HA2.out s hs
    rw [ok_tick_names] at hlk
    cases hm : mlk d.names s with
    | none =>
      rw [hm] at hlk HC
      have HE := Lib.hid (show c = 200 from HC.out.trans ((if_neg (by decide)).trans (if_pos rfl)))
      clear HC hm
      replace hlk : (Instr.lookup TM (.map (some G.mn)) (.string (S s)) false).run Try.prog w2 = .ok (.pointer none) w2 := hlk
      go_wp2_with fail
      go_ret2
      rw [HE.out]
      exact ⟨⟨none, rfl, fun h => absurd h (by decide)⟩, HA2.out, HT2.out⟩
    | some i =>
      rw [hm] at hlk HC
      have HE := Lib.hid (show c = 0 from HC.out.trans ((if_neg (by decide)).trans (if_neg Bool.false_ne_true)))
      have Hm := Lib.hid hm
      clear HC hm
      replace hlk : (Instr.lookup TM (.map (some G.mn)) (.string (S s)) false).run Try.prog w2 = .ok (.pointer (some ⟨G.blk i, 0, none⟩)) w2 := hlk
      go_wp2_with fail
      go_ret2
      rw [HE.out]
      exact ⟨⟨some (G.blk i), rfl, fun _ => ⟨i, Hm.out, rfl⟩⟩, HA2.out, HT2.out⟩
  · have HE := Lib.hid (show c = k from HC.out.trans (if_pos h0))
    have hne : (k != 0) = true := bne_iff_ne.2 h0
    clear HC h0
    go_wp2_with fail
    go_ret2
    rw [HE.out]
    exact ⟨⟨none, rfl, fun h => by rw [h] at hne; cases hne⟩, HA2.out, HT2.out⟩
end Go.Proofs.Ytmdecbockpgagaa

/- disk: change.does. -/
namespace Go.Proofs.Ytmdecbockpgagaa
open Go.RowKit Go.Maps Go.Proofs.YtmdecbockpgagaaW.PrintWords Go.Proofs.YtmdecbockpgagaaW.PrintMore
variable {B : Nat} {G : DG} {d : DS} {w w' : World}

theorem S_nil_eq (s : List UInt8) : ((S s).toList == []) = decide (s = []) := by
  have := S_eq s []
  rwa [show (S []).toList = [] from by first | rfl | decide +kernel] at this
theorem below_grown_b (hb : Below w.heap.size w w') (r : Option Nat) : w.grownBy w' r := ⟨hb.os, hb.tape, hb.output, hb.size, fun k hk _ => hb.block k hk⟩
theorem cell_turned {b : Nat} {cs : Array Value} {t : TypeId} {w3 : World} (h : (w.alloc (.cells cs t)).mapTurned w3 b) (hb : b < w.heap.size) (j : Nat) (v : Value) (hv : cs[j]? = some v) : w3.cell? ⟨w.heap.size, j, none⟩ = some v := by
  refine h.grown.cell ?_ (by simp; omega)
  unfold World.cell?
  rw [show (w.alloc (.cells cs t)).heap[w.heap.size]? = some (.cells cs t) from heap_alloc_new w _]
  exact hv
set_option maxHeartbeats 2000000 in
theorem disk_does (c : Chg) (g : Nat → Nat) (m m' : NM) (b : Nat) (hm : m.length ≤ 1000000) (hs : c.src.length ≤ 1000000) (ht : c.dst.length ≤ 1000000) (h : SM w b (nmB g m)) (hd : does c m = some m') :
    Calls Try.prog 40 #[.agg #[vOf (c.f.map g), .string (S c.src), .string (S c.dst)], .map (some b)] w fun e w' => (∃ v, e = .returned v) ∧ SM w' b (nmB g m') ∧ w.grownBy w' (some b) := by
  obtain ⟨f, src, dst⟩ := c
  simp only at hs ht
  have hr := S_nil_eq src
  have hr2 := S_nil_eq dst
  unfold does at hd
  simp only at hd
  have hlt := h.lt
  have HNB := Lib.hid (by rw [nmB_length]; exact hm : (nmB g m).length ≤ 1000000)
  have hA : ∀ v, SM (w.alloc (.cells #[v, .string (S src), .string (S dst)] 73)) b (nmB g m) := fun v => World.ownsMap.alloc h _
  have hA0 : SM (w.alloc (.cells #[vOf (f.map g), .string (S src), .string (S dst)] 73)) b (nmB g m) := World.ownsMap.alloc h _
  have hG : ∀ v, w.grownBy (w.alloc (.cells #[v, .string (S src), .string (S dst)] 73)) (some b) := fun v => World.grownBy_alloc w _ _
  have HG := Lib.hid hG
  have HA := Lib.hid hA
  have HA0 := Lib.hid hA0
  clear hG hA hA0 h
  by_cases h1 : src = []
  · rw [if_pos h1] at hd
    rw [decide_eq_true h1] at hr
    by_cases h2 : dst = []
    · rw [if_pos h2] at hd
      cases hd
      rw [decide_eq_true h2] at hr2
      clear h1 h2
      go_enter Try.func40, Try.ntmps40
      go_wp2_with fail
      go_end0
      exact ⟨⟨_, rfl⟩, HA0.out, World.grownBy_alloc w _ _⟩
    · rw [if_neg h2] at hd
      rw [decide_eq_false h2] at hr2
      cases f with
      | none => cases hd
      | some i =>
        replace HA0 : Hid (SM (w.alloc (.cells #[.pointer (some ⟨g i, 0, none⟩), .string (S []), .string (S dst)] 73)) b (nmB g m)) := Lib.hid (by rw [← h1]; exact HA0.out)
        obtain rfl := h1
        obtain rfl : mput m dst i = m' := Option.some.inj hd
        obtain ⟨w3, hrun, ho, htn⟩ := HA0.out.put HNB.out dst ht (g i)
        rw [nmB_put] at ho
        clear h2 hd
        show Calls Try.prog _ #[.agg #[.pointer (some ⟨g i, 0, none⟩), .string (S []), .string (S dst)], .map (some b)] w _
        go_enter Try.func40, Try.ntmps40
        go_wp2_with fail
        go_end0
        exact ⟨⟨_, rfl⟩, ho, (World.grownBy_alloc w _ _).trans htn.grown⟩
  · rw [if_neg h1] at hd
    rw [decide_eq_false h1] at hr
    show Calls Try.prog _ #[.agg #[vOf (f.map g), .string (S src), .string (S dst)], .map (some b)] w _
    generalize vOf (f.map g) = v0 at *
    cases hk : mlk m src with
    | none => rw [hk] at hd; cases hd
    | some i =>
      rw [hk] at hd
      have hl := HA0.out.look src hs
      rw [nmB_lk, hk] at hl
      replace hl : (Instr.lookup TM (.map (some b)) (.string (S src)) false).run Try.prog (w.alloc (.cells #[v0, .string (S src), .string (S dst)] 73)) = .ok (.pointer (some ⟨g i, 0, none⟩)) (w.alloc (.cells #[v0, .string (S src), .string (S dst)] 73)) := hl
      have Hkey := Lib.hid (keyS (s := src) hs)
      by_cases h2 : dst = []
      · obtain rfl : mdel m src = m' := by exact (Option.some.inj hd).symm ▸ (if_pos h2).symm
        rw [decide_eq_true h2] at hr2
        clear h1 h2 hd hk
        go_enter Try.func40, Try.ntmps40
        go_wp2_with (at_delete; (refine wpList_delete_own _ rfl _ _ TM 9 rfl 71 KS Try.underlying59 ptrR b _ _ rfl (HA.out (.pointer (some ⟨g i, 0, none⟩))) _ _ rfl Hkey.out ?_); intro w3 ho htn; rw [toD_del, nmB_del] at ho; have HO := Lib.hid (SM.fit ho); have HT := Lib.hid htn; have c0 := cell_turned htn hlt 0 _ rfl; have c2 := cell_turned htn hlt 2 _ rfl; clear ho htn hl hr)
        go_wp2_with fail
        go_end0
        exact ⟨⟨_, rfl⟩, HO.out, ((HG.out _).trans HT.out.grown)⟩
      · obtain rfl : mput (mdel m src) dst i = m' := by exact (Option.some.inj hd).symm ▸ (if_neg h2).symm
        rw [decide_eq_false h2] at hr2
        clear h1 h2 hd hk
        go_enter Try.func40, Try.ntmps40
        go_wp2_with (at_delete; (refine wpList_delete_own _ rfl _ _ TM 9 rfl 71 KS Try.underlying59 ptrR b _ _ rfl (HA.out (.pointer (some ⟨g i, 0, none⟩))) _ _ rfl Hkey.out ?_); intro w3 ho htn; rw [toD_del, nmB_del] at ho; have HO := Lib.hid (SM.fit ho); have HT := Lib.hid htn; have c0 := cell_turned htn hlt 0 _ rfl; have c2 := cell_turned htn hlt 2 _ rfl; clear ho htn hl hr; obtain ⟨w4, hrun2, ho2, htn2⟩ := HO.out.put (by rw [nmB_length]; exact Nat.le_trans (List.length_filter_le _ _) hm) dst ht (g i); rw [nmB_put] at ho2; have HO2 := Lib.hid ho2; have HT2 := Lib.hid htn2; clear ho2 htn2)
        go_wp2_with fail
        go_end0
        exact ⟨⟨_, rfl⟩, HO2.out, ((HG.out _).trans HT.out.grown).trans HT2.out.grown⟩
end Go.Proofs.Ytmdecbockpgagaa

/- disk: changes. -/
namespace Go.Proofs.Ytmdecbockpgagaa
open Go.RowKit Go.Maps Go.Proofs.YtmdecbockpgagaaW.PrintWords Go.Proofs.YtmdecbockpgagaaW.PrintMore
variable {B : Nat} {G : DG} {d : DS} {w w' : World}

theorem At.base (h : At B G d w) : B ≤ w.heap.size := by
  have := h.lo.1
  have := h.p_lt
  omega
theorem At.alloc (h : At B G d w) (o : Obj) : At B G d (w.alloc o) := h.below ((Below.refl _ _).alloc (Nat.le_refl _) o)
theorem At.mn_blk (h : At B G d w) {i : Nat} (hi : i < d.files.length) : G.mn ≠ G.blk i := by
  obtain ⟨es, clock, hb⟩ := h.names.obj
  exact obj_ne hb (h.files.file i _ (List.getElem?_eq_getElem hi)) (by simp)
theorem At.mn_row (h : At B G d w) {i g : Nat} (hi : i < d.files.length) (hg : (G.row i).ownBlock = some g) : G.mn ≠ g := by
  obtain ⟨cur, hb⟩ := own_obj (h.files.rows i _ (List.getElem?_eq_getElem hi)) hg
  obtain ⟨es, clock, hb2⟩ := h.names.obj
  exact obj_ne hb2 hb (by simp)
theorem At.mn_vs (h : At B G d w) {g : Nat} (hg : G.vs.ownBlock = some g) : G.mn ≠ g := by
  obtain ⟨cur, hb⟩ := own_obj h.since hg
  obtain ⟨es, clock, hb2⟩ := h.names.obj
  exact obj_ne hb2 hb (by simp)
theorem At.mq_vs (h : At B G d w) {g : Nat} (hg : G.vs.ownBlock = some g) : G.mq ≠ g := by
  obtain ⟨cur, hb⟩ := own_obj h.since hg
  obtain ⟨es, clock, hb2⟩ := h.kept.obj
  exact obj_ne hb2 hb (by simp)
theorem At.vs_blk (h : At B G d w) {i g : Nat} (hi : i < d.files.length) (hg : G.vs.ownBlock = some g) : g ≠ G.blk i := by
  obtain ⟨cur, hb⟩ := own_obj h.since hg
  exact obj_ne hb (h.files.file i _ (List.getElem?_eq_getElem hi)) (by simp)
theorem At.vs_row (h : At B G d w) {i g k : Nat} (hi : i < d.files.length) (hg : G.vs.ownBlock = some g) (hk : (G.row i).ownBlock = some k) : g ≠ k := by
  obtain ⟨cur, hb⟩ := own_obj h.since hg
  obtain ⟨cur2, hb2⟩ := own_obj (h.files.rows i _ (List.getElem?_eq_getElem hi)) hk
  exact obj_ne hb hb2 (by simp)
/-- The map of names has turned. -/
theorem At.names_turn (h : At B G d w) {m' : NM} (hs : SM w' G.mn (nmB G.blk m')) (hg : w.grownBy w' (some G.mn)) : At B G { d with names := m' } w' := by
  have hk : ∀ k, k < w.heap.size → G.mn ≠ k → w'.heap[k]? = w.heap[k]? := fun k hk hne => hg.block k hk (fun e => hne (by cases e; rfl))
  refine { cell := (hk _ h.p_lt h.p_mn.symm).trans h.cell, names := hs, kept := h.kept.kept (hk _ h.kept.lt h.apart), apart := h.apart, since := ?_, files := ?_, lo := h.lo }
  · exact own_keep h.since (fun g hg => hk _ (h.since.lt g hg).2 (h.mn_vs hg))
  · exact h.files.keep (fun i hi => hk _ (h.has_lt (has_blk h hi)).2 (h.mn_blk hi)) (fun i g hi hg => hk _ (h.has_lt (has_row h hi hg)).2 (h.mn_row hi hg))
theorem Tr.of_grown {k : Nat} (hg : w.grownBy w' (some k)) (hk : G.has k) : Tr w G w' G :=
  ⟨hg.os, hg.tape, hg.output, hg.size, fun i hi hn => hg.block i hi (fun e => hn (by cases e; exact hk)), rfl, fun _ _ h => h⟩
/-- The row of changes has grown. -/
theorem At.since_turn (h : At B G d w) {vs' : Value} {l : List Chg} (ho : w'.ownsRow B 73 3 vs' l.length (l.flatMap (chgV G.blk))) (hg : w.grownBy w' G.vs.ownBlock) :
    At B { G with vs := vs' } { d with since := l } (w'.setCell ⟨G.p, 3, none⟩ vs') := by
  have hk : ∀ k, k < w.heap.size → G.vs.ownBlock ≠ some k → w'.heap[k]? = w.heap[k]? := fun k hk hne => hg.block k hk (fun e => hne e.symm)
  have hc : w'.heap[G.p]? = some (.cells (pcells G d) 62 (0, 0)) := (hk _ h.p_lt (fun e => h.p_vs e rfl)).trans h.cell
  have hother : ∀ k, G.p ≠ k → (w'.setCell ⟨G.p, 3, none⟩ vs').heap[k]? = w'.heap[k]? := fun k hk => by
    unfold World.setCell
    simp only [Array.getElem?_modify]
    rw [if_neg hk]
  have hb : ∀ k, k < w.heap.size → G.p ≠ k → G.vs.ownBlock ≠ some k → (w'.setCell ⟨G.p, 3, none⟩ vs').heap[k]? = w.heap[k]? := fun k h1 h2 h3 => (hother k h2).trans (hk k h1 h3)
  refine { cell := ?_, names := ?_, kept := ?_, apart := h.apart, since := ?_, files := ?_, lo := h.lo }
  · unfold World.setCell
    simp only [Array.getElem?_modify, if_pos, hc]
    rfl
  · exact h.names.kept (hb _ h.names.lt h.p_mn (fun e => h.mn_vs e rfl))
  · exact h.kept.kept (hb _ h.kept.lt h.p_mq (fun e => h.mq_vs e rfl))
  · refine own_keep ho (fun g hg => hother g ?_)
    obtain ⟨cur, hb⟩ := own_obj ho hg
    exact obj_ne hc hb (by simp)
  · exact h.files.keep (fun i hi => hb _ (h.has_lt (has_blk h hi)).2 (h.p_blk hi) (fun e => h.vs_blk hi e rfl)) (fun i g hi hg => hb _ (h.has_lt (has_row h hi hg)).2 (h.p_row hi hg) (fun e => h.vs_row hi e hg rfl))
theorem Tr.since_turn {vs' : Value} (hg : w.grownBy w' G.vs.ownBlock) (ha : vs'.ownBlock = G.vs.ownBlock ∨ ∃ b, vs'.ownBlock = some b ∧ w.heap.size ≤ b) : Tr w G (w'.setCell ⟨G.p, 3, none⟩ vs') { G with vs := vs' } := by
  refine ⟨hg.os, hg.tape, hg.output, by unfold World.setCell; simp; exact hg.size, fun k hk hn => ?_, rfl, fun k hk hh => ?_⟩
  · have : (w'.setCell ⟨G.p, 3, none⟩ vs').heap[k]? = w'.heap[k]? := by
      unfold World.setCell
      simp only [Array.getElem?_modify]
      rw [if_neg (fun e => hn (.inl e.symm))]
    rw [this]
    exact hg.block k hk (fun e => hn (.inr (.inr (.inr (.inl e.symm)))))
  · rcases hh with h | h | h | h | h | h
    · exact .inl h
    · exact .inr (.inl h)
    · exact .inr (.inr (.inl h))
    · rcases ha with ha | ⟨b, ha, hb⟩
      · exact .inr (.inr (.inr (.inl (ha ▸ h))))
      · have h' : vs'.ownBlock = some k := h
        rw [ha] at h'
        cases h'
        omega
    · exact .inr (.inr (.inr (.inr (.inl h))))
    · exact .inr (.inr (.inr (.inr (.inr h))))

theorem cell_setCell_ne (w : World) {a b : Nat} (h : a ≠ b) (j k : Nat) (v : Value) : (w.setCell ⟨a, k, none⟩ v).cell? ⟨b, j, none⟩ = w.cell? ⟨b, j, none⟩ := by
  refine World.cell?_of_block ?_
  unfold World.setCell
  simp only [Array.getElem?_modify]
  rw [if_neg h]
theorem step_append_run {P : Program} {W : World} {ops : Array Oper} {o : Oper} {a : Act} {K : Act → World → Prop} {Q : Exit → Act → World → Prop} {E : Prop} (hgd : o.guard = none) (s x : Operand) (t : TypeId)
    (ho : o.op = .call { callee := .builtin .append, args := #[s, x], argTypes := #[t, t] }) (v y v1 : Value) (w1 : World) (hs : a.eval s = v) (hx : a.eval x = y) (hrun : (Builtin.append_ #[t, t] o.type #[v, y]).run P W = .ok v1 w1) (h : K (a.put o.dst v1) w1) :
    if Region.wanted o (yielded ops a.tmps) = true then Oper.wp P o a W K Q else E := by
  have hw : Region.wanted o (yielded ops a.tmps) = true := by simp [Region.wanted, hgd]
  rw [if_pos hw]
  unfold Oper.wp execOp
  simp only [ho, resolve, invoke, builtin, Sem.run_bind, Sem.run_pure, Result.andThen_ok, List.map_toArray, List.map_cons, List.map_nil, hs, hx, hrun]
  exact h
theorem own_slice {w : World} {base : Nat} {e : TypeId} {size : Nat} {v : Value} {n : Nat} {xs : List Value} (h : w.ownsRow base e size v n xs) : ∃ A n c, v = .slice A n c := by
  rcases h.2 with ⟨rfl, _⟩ | ⟨g, cap, cur, rfl, _⟩
  · exact ⟨_, _, _, rfl⟩
  · exact ⟨_, _, _, rfl⟩
theorem info67 : (Try.prog.info? 73).map (fun i => (i.zero, i.size, i.bytes)) = some (some (.agg #[.pointer none, .string ByteArray.empty, .string ByteArray.empty]), 3, 40) := by kernel_rfl
theorem vOf_cell (o : Option Nat) : (vOf o).oneCell' = true := by cases o <;> rfl
set_option maxRecDepth 100000 in
set_option maxHeartbeats 2000000 in
theorem disk_changes (h : At B G d w) (c : Chg) (m' : NM) (hd : does c d.names = some m') (hs : c.src.length ≤ 1000000) (ht : c.dst.length ≤ 1000000) (hm : d.names.length ≤ 1000000) (hl : d.since.length ≤ 1000000000000) :
    Calls Try.prog 45 #[dp G, .agg #[vOf (c.f.map G.blk), .string (S c.src), .string (S c.dst)]] w fun e w' => (∃ v, e = .returned v) ∧ ∃ vs', At B { G with vs := vs' } (d.changes c) w' ∧ Tr w G w' { G with vs := vs' } := by
  have HM : Hid (d.changes c = { { d with names := m' } with since := d.since ++ [c] }) := Lib.hid (by unfold DS.changes; rw [hd]; rfl)
  have HV : Hid (chgV G.blk c = [vOf (c.f.map G.blk), .string (S c.src), .string (S c.dst)]) := Lib.hid rfl
  have hone := vOf_cell (c.f.map G.blk)
  have HD := Lib.hid (fun w (h : SM w G.mn (nmB G.blk d.names)) => disk_does c G.blk d.names m' G.mn hm hs ht h hd)
  obtain ⟨f, src, dst⟩ := c
  simp only at hs ht HM HV HD hone ⊢
  generalize vOf (f.map G.blk) = v0 at HV HD hone ⊢
  have HO1 := Lib.hid hone
  have HA := Lib.hid (h.alloc (.cells #[v0, .string (S src), .string (S dst)] 73))
  have HT := Lib.hid (Tr.of_below ((Below.refl _ w).alloc (Nat.le_refl _) (.cells #[v0, .string (S src), .string (S dst)] 73)) G)
  have l1 := HA.out.l1
  have hne : G.mn ≠ w.heap.size := fun e => by
    have := h.names.lt
    omega
  have hcb : w.heap.size < (w.alloc (.cells #[v0, .string (S src), .string (S dst)] 73)).heap.size := by simp
  have hvcb : G.vs.ownBlock ≠ some w.heap.size := fun e => by
    have := (h.since.lt _ e).2
    omega
  have hcc := World.news_of_block (w := w.alloc (.cells #[v0, .string (S src), .string (S dst)] 73)) (heap_alloc_new w _)
  have c0 := hcc 0 v0 rfl
  have c1 := hcc 1 (.string (S src)) rfl
  have c2 := hcc 2 (.string (S dst)) rfl
  rw [add_plain] at c0 c1 c2
  clear hcc h hd hone
  go_enter Try.func45, Try.ntmps45
  go_wp2_with fail
  generalize w.alloc (.cells #[v0, .string (S src), .string (S dst)] 73) = w1 at *
  generalize w.heap.size = cb at *
  go_still_tail 5, (by kernel_rfl)
  go_wp2_with fail
  have HA1 := Lib.hid (HA.out.drew 1)
  have HT1 := Lib.hid (HT.out.then_below (Below.refl w1.heap.size w1).drew)
  refine (HD.out w1.drew HA1.out.names).mono ?_
  rintro e w2 ⟨⟨v, rfl⟩, hsm, hg⟩
  have HA2 := Lib.hid (HA1.out.names_turn hsm hg)
  have HT2 := Lib.hid (HT1.out.trans (Tr.of_grown hg (.inr (.inl rfl))))
  have c0 := hg.cell c0 (fun e => hne (by cases e; rfl))
  have c1 := hg.cell c1 (fun e => hne (by cases e; rfl))
  have c2 := hg.cell c2 (fun e => hne (by cases e; rfl))
  have hcb2 : cb < w2.heap.size := Nat.lt_of_lt_of_le hcb hg.size
  clear hsm hg HA HT HA1 HT1 HD l1 hne
  go_wp2_with fail
  refine wp_region_held_drew (S := fun W => W.cell? ⟨cb, 0, none⟩ = some v0 ∧ W.cell? ⟨cb, 1, none⟩ = some (.string (S src)) ∧ W.cell? ⟨cb, 2, none⟩ = some (.string (S dst))) (by kernel_rfl) ⟨c0, c1, c2⟩ (fun hHeld => ?_)
  have HA3 := HA2.out.drew 1
  have HT3 := HT2.out.then_below (Below.refl w2.heap.size w2).drew
  have hc0 : w2.drew.cell? ⟨cb, 0, none⟩ = some v0 := c0
  have hc1 : w2.drew.cell? ⟨cb, 1, none⟩ = some (.string (S src)) := c1
  have hc2 : w2.drew.cell? ⟨cb, 2, none⟩ = some (.string (S dst)) := c2
  have hcb3 : cb < w2.drew.heap.size := hcb2
  replace HA3 : At B G { d with names := m' } w2.drew := HA3
  clear HA2 HT2 c0 c1 c2 hcb hcb2
  generalize w2.drew = w3 at *
  have l3 := HA3.l3
  have HA4 := HA3.alloc (.cells #[v0, .string (S src), .string (S dst)] 73)
  have HT4 := HT3.then_below ((Below.refl _ _).alloc (Nat.le_refl _) (.cells #[v0, .string (S src), .string (S dst)] 73))
  have l3' := HA4.l3
  have hB4 := HA4.base
  have hnews := World.news_of_block (w := w3.alloc (.cells #[v0, .string (S src), .string (S dst)] 73)) (heap_alloc_new w3 _)
  have s6 : (fun W : World => W.cell? ⟨cb, 0, none⟩ = some v0 ∧ W.cell? ⟨cb, 1, none⟩ = some (.string (S src)) ∧ W.cell? ⟨cb, 2, none⟩ = some (.string (S dst))) (w3.alloc (.cells #[v0, .string (S src), .string (S dst)] 73)) :=
    ⟨Lib.cell?_alloc_some _ hc0, Lib.cell?_alloc_some _ hc1, Lib.cell?_alloc_some _ hc2⟩
  obtain ⟨i0, hi, hz0, hz1, hz2⟩ := info_parts info67
  obtain ⟨vs', w5, hrun, ho5, hg5, -, hat⟩ := run_append_own_at (P := Try.prog) (w3.alloc (.cells #[v0, .string (S src), .string (S dst)] 73)) B 60 60 73 i0 _ 3 40 Try.underlying60 hi hz0 hz1 hz2 rfl (by omega) G.vs d.since.length _ HA4.since ⟨w3.heap.size, 0, none⟩ 1 1 [v0, .string (S src), .string (S dst)] rfl hnews (by
      intro u hu
      simp only [List.mem_cons, List.not_mem_nil, or_false] at hu
      rcases hu with rfl | rfl | rfl
      · exact HO1.out
      · rfl
      · rfl) (by unfold maxLen; omega) (by omega) hB4
  have hflat : d.since.flatMap (chgV G.blk) ++ [v0, .string (S src), .string (S dst)] = (d.since ++ [(⟨f, src, dst⟩ : Chg)]).flatMap (chgV G.blk) := by
    rw [List.flatMap_append, List.flatMap_cons, List.flatMap_nil, HV.out, List.append_nil]
  rw [hflat, show d.since.length + 1 = (d.since ++ [(⟨f, src, dst⟩ : Chg)]).length from by simp] at ho5
  obtain ⟨An, nn, cn, rfl⟩ := own_slice ho5
  have hEnd := HA4.since_turn ho5 hg5
  have hTr := HT4.trans (Tr.since_turn (G := G) (vs' := .slice An nn cn) hg5 (hat.imp id (fun h => ⟨_, h, Nat.le_refl _⟩)))
  replace hEnd : At B { G with vs := .slice An nn cn } (d.changes ⟨f, src, dst⟩) (w5.setCell ⟨G.p, 3, none⟩ (.slice An nn cn)) := by rw [HM.out]; exact hEnd
  have hpv : some G.p ≠ G.vs.ownBlock := fun e => HA4.p_vs e.symm rfl
  have k3 : w5.cell? ⟨G.p, 3, none⟩ = some G.vs := hg5.cell l3' hpv
  have kz : w5.frozen? ⟨G.p, 3, none⟩ = false := by
    rw [World.frozen?_of_block (hg5.block G.p HA4.p_lt hpv)]
    exact HA4.thaw 3
  have hpc : G.p ≠ cb := by
    rintro rfl
    have := HA3.l0
    rw [hc0] at this
    have h1 := HA3.l1
    rw [hc1] at h1
    cases h1
  have hvc : some cb ≠ G.vs.ownBlock := fun e => hvcb e.symm
  have s7 : (fun W : World => W.cell? ⟨cb, 0, none⟩ = some v0 ∧ W.cell? ⟨cb, 1, none⟩ = some (.string (S src)) ∧ W.cell? ⟨cb, 2, none⟩ = some (.string (S dst))) w5 :=
    ⟨hg5.cell s6.1 hvc, hg5.cell s6.2.1 hvc, hg5.cell s6.2.2 hvc⟩
  have s10 : (fun W : World => W.cell? ⟨cb, 0, none⟩ = some v0 ∧ W.cell? ⟨cb, 1, none⟩ = some (.string (S src)) ∧ W.cell? ⟨cb, 2, none⟩ = some (.string (S dst))) (w5.setCell ⟨G.p, 3, none⟩ (.slice An nn cn)) :=
    ⟨(cell_setCell_ne w5 hpc 0 3 _).trans s7.1, (cell_setCell_ne w5 hpc 1 3 _).trans s7.2.1, (cell_setCell_ne w5 hpc 2 3 _).trans s7.2.2⟩
  clear hnews hi hz0 hz1 hz2 ho5 hg5 hflat HA3 HA4 HT3 HT4 hat hB4 HO1 HM HV hpv hvc hvcb
  refine held_take (i := 0) (v := ?_) rfl (by kernel_rfl) (by kernel_rfl) (by kernel_rfl) (fun _ _ _ h => h) (by rfl) hHeld ?y2_0 ?_
  case y2_0 => (intro w hSw; (try dsimp only at hSw); go_simp; try with_reducible rfl)
  try simp only [Act.put, List.setIfInBounds_toArray, List.set_cons_zero, List.set_cons_succ]
  refine held_take (i := 1) (v := ?_) rfl (by kernel_rfl) (by kernel_rfl) (by kernel_rfl) (fun _ _ _ h => h) (by rfl) hHeld ?y2_1 ?_
  case y2_1 => (intro w hSw; (try dsimp only at hSw); go_simp; try with_reducible rfl)
  try simp only [Act.put, List.setIfInBounds_toArray, List.set_cons_zero, List.set_cons_succ]
  refine held_take (i := 2) (v := ?_) rfl (by kernel_rfl) (by kernel_rfl) (by kernel_rfl) (fun _ _ _ h => h) (by rfl) hHeld ?y2_2 ?_
  case y2_2 => (intro w hSw; (try dsimp only at hSw); go_simp; try with_reducible rfl)
  try simp only [Act.put, List.setIfInBounds_toArray, List.set_cons_zero, List.set_cons_succ]
  refine held_take (i := 3) (v := ?_) rfl (by kernel_rfl) (by kernel_rfl) (by kernel_rfl) (fun _ _ _ h => h) (by rfl) hHeld ?y2_3 ?_
  case y2_3 => (intro w hSw; (try dsimp only at hSw); go_simp; try with_reducible rfl)
  try simp only [Act.put, List.setIfInBounds_toArray, List.set_cons_zero, List.set_cons_succ]
  refine held_take (i := 5) (v := ?_) rfl (by kernel_rfl) (by kernel_rfl) (by kernel_rfl) (fun _ _ _ h => h) (by rfl) hHeld ?y2_5 ?_
  case y2_5 => (intro w hSw; (try dsimp only at hSw); go_simp; try with_reducible rfl)
  try simp only [Act.put, List.setIfInBounds_toArray, List.set_cons_zero, List.set_cons_succ]
  refine wpAnyH_ready (rs := [4, 6]) (by kernel_rfl) (by simp) ?_
  refine held_cons (i := 4) rfl (fun K hK => ?_) (held_cons (i := 6) rfl (fun K hK => ?_) AllReadyH.nil)
  · go_simp
    refine hK.out _ _ ?_ (fun hHeld => ?_)
    · exact hHeld
    clear hK K
    try simp only [Act.put, List.setIfInBounds_toArray, List.set_cons_zero, List.set_cons_succ]
    refine held_one (i := 6) (by kernel_rfl) rfl (fun K hK => ?_)
    (go_simp; have hS6 := s6)
    refine hK.out _ _ ?_ (fun hHeld => ?_)
    · exact hS6
    clear hK K
    try simp only [Act.put, List.setIfInBounds_toArray, List.set_cons_zero, List.set_cons_succ]
    refine held_one (i := 7) (by kernel_rfl) rfl (fun K hK => ?_)
    (refine step_append_run rfl _ _ _ rfl _ _ _ _ rfl rfl hrun ?_; have hS7 := s7)
    refine hK.out _ _ ?_ (fun hHeld => ?_)
    · exact hS7
    clear hK K
    try simp only [Act.put, List.setIfInBounds_toArray, List.set_cons_zero, List.set_cons_succ]
    refine held_take (i := 8) (v := ?_) rfl (by kernel_rfl) (by kernel_rfl) (by kernel_rfl) (fun _ _ _ h => h) (by rfl) hHeld ?y2_8 ?_
    case y2_8 => (intro w hSw; (try dsimp only at hSw); go_simp; try with_reducible rfl)
    try simp only [Act.put, List.setIfInBounds_toArray, List.set_cons_zero, List.set_cons_succ]
    refine held_take (i := 9) (v := ?_) rfl (by kernel_rfl) (by kernel_rfl) (by kernel_rfl) (fun _ _ _ h => h) (by rfl) hHeld ?y2_9 ?_
    case y2_9 => (intro w hSw; (try dsimp only at hSw); go_simp; try with_reducible rfl)
    try simp only [Act.put, List.setIfInBounds_toArray, List.set_cons_zero, List.set_cons_succ]
    refine held_one (i := 10) (by kernel_rfl) rfl (fun K hK => ?_)
    (go_simp; have hS10 := s10)
    refine hK.out _ _ ?_ (fun hHeld => ?_)
    · exact hS10
    clear hK K
    try simp only [Act.put, List.setIfInBounds_toArray, List.set_cons_zero, List.set_cons_succ]
    refine wpAnyH_done (by kernel_rfl) ?_ _
    go_wp2_with fail
    go_end0
    exact ⟨⟨_, rfl⟩, _, hEnd, hTr⟩
  · (go_simp; have hS6 := s6)
    refine hK.out _ _ ?_ (fun hHeld => ?_)
    · exact hS6
    clear hK K
    try simp only [Act.put, List.setIfInBounds_toArray, List.set_cons_zero, List.set_cons_succ]
    refine held_one (i := 4) (by kernel_rfl) rfl (fun K hK => ?_)
    go_simp
    refine hK.out _ _ ?_ (fun hHeld => ?_)
    · exact hHeld
    clear hK K
    try simp only [Act.put, List.setIfInBounds_toArray, List.set_cons_zero, List.set_cons_succ]
    refine held_one (i := 7) (by kernel_rfl) rfl (fun K hK => ?_)
    (refine step_append_run rfl _ _ _ rfl _ _ _ _ rfl rfl hrun ?_; have hS7 := s7)
    refine hK.out _ _ ?_ (fun hHeld => ?_)
    · exact hS7
    clear hK K
    try simp only [Act.put, List.setIfInBounds_toArray, List.set_cons_zero, List.set_cons_succ]
    refine held_take (i := 8) (v := ?_) rfl (by kernel_rfl) (by kernel_rfl) (by kernel_rfl) (fun _ _ _ h => h) (by rfl) hHeld ?y2_8 ?_
    case y2_8 => (intro w hSw; (try dsimp only at hSw); go_simp; try with_reducible rfl)
    try simp only [Act.put, List.setIfInBounds_toArray, List.set_cons_zero, List.set_cons_succ]
    refine held_take (i := 9) (v := ?_) rfl (by kernel_rfl) (by kernel_rfl) (by kernel_rfl) (fun _ _ _ h => h) (by rfl) hHeld ?y2_9 ?_
    case y2_9 => (intro w hSw; (try dsimp only at hSw); go_simp; try with_reducible rfl)
    try simp only [Act.put, List.setIfInBounds_toArray, List.set_cons_zero, List.set_cons_succ]
    refine held_one (i := 10) (by kernel_rfl) rfl (fun K hK => ?_)
    (go_simp; have hS10 := s10)
    refine hK.out _ _ ?_ (fun hHeld => ?_)
    · exact hS10
    clear hK K
    try simp only [Act.put, List.setIfInBounds_toArray, List.set_cons_zero, List.set_cons_succ]
    refine wpAnyH_done (by kernel_rfl) ?_ _
    go_wp2_with fail
    go_end0
    exact ⟨⟨_, rfl⟩, _, hEnd, hTr⟩
end Go.Proofs.Ytmdecbockpgagaa

/- disk: Create. -/
namespace Go.Proofs.Ytmdecbockpgagaa
open Go.RowKit Go.Maps Go.Proofs.YtmdecbockpgagaaW.PrintWords Go.Proofs.YtmdecbockpgagaaW.PrintMore
variable {B : Nat} {G : DG} {d : DS} {w w' : World}

theorem getD_app {α : Type} (l : List α) (x z : α) {i : Nat} (h : i < l.length) : (l ++ [x]).getD i z = l.getD i z := by
  rw [List.getD_eq_getElem?_getD, List.getD_eq_getElem?_getD, List.getElem?_append_left h]
theorem getD_last {α : Type} (l : List α) (x z : α) : (l ++ [x]).getD l.length z = x := by
  rw [List.getD_eq_getElem?_getD, List.getElem?_append_right (Nat.le_refl _), Nat.sub_self]
  rfl
theorem chgV_congr {g g' : Nat → Nat} {l : List Chg} (h : ∀ c ∈ l, ∀ i, c.f = some i → g i = g' i) : l.flatMap (chgV g) = l.flatMap (chgV g') := by
  have hh : ∀ c ∈ l, chgV g c = chgV g' c := fun c hc => by
    unfold chgV
    have : c.f.map g = c.f.map g' := by
      cases hf : c.f with
      | none => rfl
      | some i => exact congrArg some (h c hc i hf)
    rw [this]
  clear h
  induction l with
  | nil => rfl
  | cons c r ih => rw [List.flatMap_cons, List.flatMap_cons, hh c List.mem_cons_self, ih (fun c' hc' => hh c' (List.mem_cons_of_mem _ hc'))]
def DG.more (G : DG) (b : Nat) (v : Value) : DG := { G with bl := G.bl ++ [b], vl := G.vl ++ [v] }
theorem FA.more (h : FA B G.bl G.vl d.files w) (hb : B ≤ w.heap.size) : FA B (G.bl ++ [w.heap.size]) (G.vl ++ [.slice none 0 0]) (d.files ++ [⟨[], 0⟩]) (w.alloc (.cells #[.slice none 0 0, .int .i64 0] 79)) := by
  have nb := h.nb
  have nv := h.nv
  have hw : ∀ k, k < w.heap.size → (w.alloc (.cells #[.slice none 0 0, .int .i64 0] 79)).heap[k]? = w.heap[k]? := fun k hk => ((Below.refl _ w).alloc (Nat.le_refl _) _).block k hk
  have hlt : ∀ i, i < d.files.length → G.bl.getD i 0 < w.heap.size := fun i hi => (Array.getElem?_eq_some_iff.1 (h.file i _ (List.getElem?_eq_getElem hi))).1
  have hcase : ∀ {i : Nat} {f : Fl}, (d.files ++ [⟨[], 0⟩])[i]? = some f → (i < d.files.length ∧ d.files[i]? = some f) ∨ (i = d.files.length ∧ f = ⟨[], 0⟩) := by
    intro i f hf
    rcases Nat.lt_or_ge i d.files.length with hi | hi
    · rw [List.getElem?_append_left hi] at hf
      exact .inl ⟨hi, hf⟩
    · rw [List.getElem?_append_right hi] at hf
      have hlt := (List.getElem?_eq_some_iff.1 hf).1
      have h0 : i - d.files.length = 0 := by simpa using hlt
      rw [h0] at hf
      cases hf
      exact .inr ⟨by omega, rfl⟩
  refine { nb := ?_, nv := ?_, file := ?_, rows := ?_, bys := ?_, ab := ?_, av := ?_, lo := ?_ }
  · rw [List.length_append, List.length_append, nb]; rfl
  · rw [List.length_append, List.length_append, nv]; rfl
  · intro i f hf
    rcases hcase hf with ⟨hi, hf⟩ | ⟨rfl, rfl⟩
    · rw [getD_app _ _ _ (by omega), getD_app _ _ _ (by omega), hw _ (hlt i hi)]
      exact h.file i f hf
    · rw [← nb, getD_last, nb, ← nv, getD_last]
      exact heap_alloc_new w _
  · intro i f hf
    rcases hcase hf with ⟨hi, hf⟩ | ⟨rfl, rfl⟩
    · rw [getD_app _ _ _ (by omega)]
      exact own_keep (h.rows i f hf) (fun g hg => hw g (World.ownsRow.lt (h.rows i f hf) g hg).2)
    · rw [← nv, getD_last]
      exact OwnB.nil _ _
  · intro i f hf
    rcases hcase hf with ⟨_, hf⟩ | ⟨rfl, rfl⟩
    · exact h.bys i f hf
    · exact fun x hx => absurd hx (List.not_mem_nil)
  · intro i j hi hj he
    rw [List.length_append] at hi hj
    simp only [List.length_cons, List.length_nil] at hi hj
    rcases Nat.lt_or_ge i d.files.length with hi' | hi' <;> rcases Nat.lt_or_ge j d.files.length with hj' | hj'
    · rw [getD_app _ _ _ (by omega), getD_app _ _ _ (by omega)] at he
      exact h.ab i j hi' hj' he
    · obtain rfl : j = d.files.length := by omega
      rw [getD_app _ _ _ (by omega), ← nb, getD_last] at he
      have := hlt i hi'
      omega
    · obtain rfl : i = d.files.length := by omega
      rw [getD_app _ _ _ (i := j) (by omega), ← nb, getD_last] at he
      have := hlt j hj'
      omega
    · omega
  · intro i j g hi hj h1 h2
    rw [List.length_append] at hi hj
    simp only [List.length_cons, List.length_nil] at hi hj
    rcases Nat.lt_or_ge i d.files.length with hi' | hi' <;> rcases Nat.lt_or_ge j d.files.length with hj' | hj'
    · rw [getD_app _ _ _ (by omega)] at h1 h2
      exact h.av i j g hi' hj' h1 h2
    · obtain rfl : j = d.files.length := by omega
      rw [← nv, getD_last] at h2
      cases h2
    · obtain rfl : i = d.files.length := by omega
      rw [← nv, getD_last] at h1
      cases h1
    · omega
  · intro i hi
    rw [List.length_append] at hi
    simp only [List.length_cons, List.length_nil] at hi
    rcases Nat.lt_or_ge i d.files.length with hi' | hi'
    · rw [getD_app _ _ _ (by omega)]
      exact h.lo i hi'
    · obtain rfl : i = d.files.length := by omega
      rw [← nb, getD_last]
      exact hb
theorem At.file_new (h : At B G d w) (ho : d.Ok) : At B (G.more w.heap.size (.slice none 0 0)) { d with files := d.files ++ [⟨[], 0⟩] } (w.alloc (.cells #[.slice none 0 0, .int .i64 0] 79)) := by
  have hA := h.alloc (.cells #[.slice none 0 0, .int .i64 0] 79)
  have hg : ∀ i, i < d.files.length → G.blk i = (G.more w.heap.size (.slice none 0 0)).blk i := fun i hi => (getD_app _ _ _ (by rw [h.files.nb]; exact hi)).symm
  refine { cell := hA.cell, names := ?_, kept := ?_, apart := hA.apart, since := ?_, files := h.files.more h.base, lo := hA.lo }
  · show SM _ _ (nmB _ d.names)
    rw [← nmB_congr (fun p hp => hg _ (ho.names p hp))]
    exact hA.names
  · show SM _ _ (nmB _ d.kept)
    rw [← nmB_congr (fun p hp => hg _ (ho.kept p hp))]
    exact hA.kept
  · show World.ownsRow _ _ _ _ _ _ (d.since.flatMap _)
    rw [← chgV_congr (fun c hc i hi => hg i (ho.since c hc i hi))]
    exact hA.since
theorem Tr.more (G : DG) (o : Obj) : Tr w G (w.alloc o) (G.more w.heap.size (.slice none 0 0)) := by
  have hb := (Below.refl _ w).alloc (Nat.le_refl _) o
  refine ⟨hb.os, hb.tape, hb.output, hb.size, fun k hk _ => hb.block k hk, rfl, fun k hk hh => ?_⟩
  rcases hh with hh | hh | hh | hh | ⟨i, hi, hh⟩ | ⟨i, hi, hh⟩
  · exact .inl hh
  · exact .inr (.inl hh)
  · exact .inr (.inr (.inl hh))
  · exact .inr (.inr (.inr (.inl hh)))
  · have hi' : i < (G.bl ++ [w.heap.size]).length := hi
    have hh' : (G.bl ++ [w.heap.size]).getD i 0 = k := hh
    rcases Nat.lt_or_ge i G.bl.length with h1 | h1
    · rw [getD_app _ _ _ h1] at hh'
      exact .inr (.inr (.inr (.inr (.inl ⟨i, h1, hh'⟩))))
    · rw [List.length_append] at hi'
      simp only [List.length_cons, List.length_nil] at hi'
      obtain rfl : i = G.bl.length := by omega
      rw [getD_last] at hh'
      omega
  · have hi' : i < (G.vl ++ [Value.slice none 0 0]).length := hi
    have hh' : ((G.vl ++ [Value.slice none 0 0]).getD i (.pointer none)).ownBlock = some k := hh
    rcases Nat.lt_or_ge i G.vl.length with h1 | h1
    · rw [getD_app _ _ _ h1] at hh'
      exact .inr (.inr (.inr (.inr (.inr ⟨i, h1, hh'⟩))))
    · rw [List.length_append] at hi'
      simp only [List.length_cons, List.length_nil] at hi'
      obtain rfl : i = G.vl.length := by omega
      rw [getD_last] at hh'
      cases hh'

set_option maxRecDepth 100000 in
set_option maxHeartbeats 2000000 in
theorem disk_create (h : At B G d w) (ho : d.Ok) (hst : d.steps < 1000000000) (s : List UInt8) (hs : s.length ≤ 1000000) :
    Calls Try.prog 20 #[dp G, .string (S s)] w fun e w' => e = .returned (.int .i64 (d.create s).1) ∧ ∃ G', At B G' (d.create s).2 w' ∧ Tr w G w' G' := by
  have HO := Lib.hid (OwnS.rd (base := w.heap.size) (ss := [s]) (own_name w s))
  have HA0 := Lib.hid (h.alloc (.cells #[.string (S s)] 9))
  have HT0 := Lib.hid (Tr.of_below ((Below.refl _ w).alloc (Nat.le_refl _) (.cells #[.string (S s)] 9)) G)
  have HF := Lib.hid (disk_step HA0.out ho hst HO.out (by simpa using hs) (by simp))
  have HOK := Lib.hid (Ok.tick ho hst)
  have HOK0 := Lib.hid ho
  obtain ⟨r, hr⟩ : ∃ r, d.create s = r := ⟨_, rfl⟩
  rw [hr]
  have HR := Lib.hid hr
  have hm := ho.many
  have hfl : d.tick.names = d.names := rfl
  clear h ho hr
  go_enter Try.func20, Try.ntmps20
  go_wp2_with fail
  refine HF.out.mono ?_
  rintro e w2 ⟨rfl, ha, ht⟩
  have HA2 := Lib.hid ha
  have HT2 := Lib.hid (HT0.out.trans ht)
  clear HF HA0 HT0 HO ha ht
  generalize hk : d.tick.code [s] = k at *
  have HK := Lib.hid hk
  clear hk
  by_cases h0 : k = 0
  · subst h0
    have l1 := HA2.out.l1
    have hlk := disk_lookup HA2.out s hs
    have hln := HA2.out.names.len
    rw [nmB_length] at hln
    rw [hfl] at hlk hln
    by_cases hq : (mlk d.names s).isNone ∧ 200 ≤ d.names.length
    · have HE : Hid (r = (201, d.tick)) := Lib.hid (by
        rw [← HR.out]
        unfold DS.create
        simp only
        rw [if_neg (by rw [HK.out]; simp), if_pos (show (mlk d.tick.names s).isNone ∧ 200 ≤ d.tick.names.length from hq)])
      obtain ⟨hq1, hq2⟩ := hq
      rw [Option.isNone_iff_eq_none.1 hq1] at hlk
      replace hlk : (Instr.lookup TM (.map (some G.mn)) (.string (S s)) false).run Try.prog w2 = .ok (.pointer none) w2 := hlk
      have hq3 : (200 : Int) ≤ (d.names.length : Int) := by omega
      clear hq1 hq2
      go_wp2_with fail
      go_ret
      rw [HE.out]
      exact ⟨rfl, G, HA2.out, HT2.out⟩
    · have HE : Hid (r = (0, ({ d.tick with files := d.files ++ [⟨[], 0⟩] } : DS).changes ⟨some d.files.length, [], s⟩)) := Lib.hid (HR.out.symm.trans (create_eq d s HK.out hq))
      have hs0 := nameB_ne (code_zero HK.out s List.mem_cons_self)
      have HA3 := Lib.hid (HA2.out.file_new HOK.out)
      have HT3 := Lib.hid (HT2.out.trans (Tr.more G (.cells #[.slice none 0 0, .int .i64 0] 79)))
      have HD := Lib.hid (disk_changes HA3.out ⟨some d.files.length, [], s⟩ _ (does_new hs0) (by simp) hs (show d.names.length ≤ 1000000 by omega) (show d.since.length ≤ 1000000000000 from by
        have h1 := HOK0.out.sinceN
        omega))
      have hblk : (G.more w2.heap.size (.slice none 0 0)).blk d.files.length = w2.heap.size := by
        have := HA2.out.files.nb
        show (G.bl ++ [w2.heap.size]).getD d.files.length 0 = _
        rw [← show G.bl.length = d.files.length from this, getD_last]
      rw [show vOf ((⟨some d.files.length, [], s⟩ : Chg).f.map (G.more w2.heap.size (.slice none 0 0)).blk) = .pointer (some ⟨w2.heap.size, 0, none⟩) from by
        show vOf (some ((G.more w2.heap.size (.slice none 0 0)).blk d.files.length)) = _
        rw [hblk]
        rfl] at HD
      clear hblk hs0
      cases hl : mlk d.names s with
      | none =>
        have hq3 : ¬ (200 : Int) ≤ (d.names.length : Int) := fun hh => hq ⟨by rw [hl]; rfl, by omega⟩
        rw [hl] at hlk
        replace hlk : (Instr.lookup TM (.map (some G.mn)) (.string (S s)) false).run Try.prog w2 = .ok (.pointer none) w2 := hlk
        clear hq hl
        go_wp2_with fail
        refine HD.out.mono ?_
        rintro e w4 ⟨⟨v, rfl⟩, vs', ha, ht⟩
        have HA4 := Lib.hid ha
        have HT4 := Lib.hid (HT3.out.trans ht)
        clear ha ht
        go_wp2_with fail
        go_ret
        rw [HE.out]
        exact ⟨rfl, _, HA4.out, HT4.out⟩
      | some i =>
        rw [hl] at hlk
        replace hlk : (Instr.lookup TM (.map (some G.mn)) (.string (S s)) false).run Try.prog w2 = .ok (.pointer (some ⟨G.blk i, 0, none⟩)) w2 := hlk
        clear hq hl
        go_wp2_with fail
        refine HD.out.mono ?_
        rintro e w4 ⟨⟨v, rfl⟩, vs', ha, ht⟩
        have HA4 := Lib.hid ha
        have HT4 := Lib.hid (HT3.out.trans ht)
        clear ha ht
        go_wp2_with fail
        go_ret
        rw [HE.out]
        exact ⟨rfl, _, HA4.out, HT4.out⟩
  · have HE : Hid (r = (k, d.tick)) := Lib.hid (by
      rw [← HR.out]
      unfold DS.create
      simp only
      rw [HK.out, if_pos h0])
    have hne : (k != 0) = true := bne_iff_ne.2 h0
    clear h0
    go_wp2_with fail
    go_ret
    rw [HE.out]
    exact ⟨rfl, G, HA2.out, HT2.out⟩
end Go.Proofs.Ytmdecbockpgagaa

/- disk: used. -/
namespace Go.Proofs.Ytmdecbockpgagaa
open Go.RowKit Go.Maps Go.Proofs.YtmdecbockpgagaaW.PrintWords Go.Proofs.YtmdecbockpgagaaW.PrintMore
variable {B : Nat} {G : DG} {d : DS} {w w' : World}

def sumL (m : NM) (len : Nat → Nat) (left : Lit → Bool) : Nat := (m.map fun p => if left (.string p.1) then 0 else len p.2).sum
theorem sumL_step (len : Nat → Nat) (left : Lit → Bool) {s : Nm} {i : Nat} (hl : left (.string s) = true) : ∀ (m : NM), m.Pairwise (fun p q => p.1 ≠ q.1) → (s, i) ∈ m → sumL m len (fun z => left z && !z.sameKey (.string s)) = sumL m len left + len i
  | [], _, h => by cases h
  | p :: r, hp, h => by
    have hk : ∀ q : Nm × Nat, (Lit.string q.1).sameKey (.string s) = (q.1 == s) := fun q => rfl
    unfold sumL
    simp only [List.map_cons, List.sum_cons, hk]
    rw [List.pairwise_cons] at hp
    rcases List.mem_cons.1 h with rfl | h
    · have hr : (r.map fun p => if left (.string p.1) && !(p.1 == s) then 0 else len p.2) = r.map fun p => if left (.string p.1) then 0 else len p.2 := by
        refine List.map_congr_left fun q hq => ?_
        have : (q.1 == s) = false := beq_eq_false_iff_ne.2 (fun e => hp.1 q hq e.symm)
        rw [this]
        simp
      rw [hr]
      simp [hl]
      omega
    · have ih := sumL_step len left hl r hp.2 h
      unfold sumL at ih
      simp only [hk] at ih
      rw [ih]
      have : (p.1 == s) = false := beq_eq_false_iff_ne.2 (fun e => hp.1 _ h e)
      rw [this]
      simp
      omega
theorem sumL_zero (len : Nat → Nat) (left : Lit → Bool) (m : NM) (h : ∀ p ∈ m, left (.string p.1) = true) : sumL m len left = 0 := by
  unfold sumL
  rw [List.map_congr_left (g := fun _ => 0) (fun p hp => by rw [h p hp]; rfl)]
  induction m with
  | nil => rfl
  | cons p r ih => simpa using ih (fun q hq => h q (List.mem_cons_of_mem _ hq))
theorem sumL_all (len : Nat → Nat) (left : Lit → Bool) (m : NM) (h : ∀ kl, left kl = false) : sumL m len left = (m.map fun p => len p.2).sum := by
  unfold sumL
  congr 1
  refine List.map_congr_left fun p _ => ?_
  rw [h]
  rfl
theorem sumL_le (len : Nat → Nat) (left : Lit → Bool) (m : NM) (k : Nat) (h : ∀ p ∈ m, len p.2 ≤ k) : sumL m len left ≤ m.length * k := by
  unfold sumL
  induction m with
  | nil => simp
  | cons p r ih =>
    have h1 := ih (fun q hq => h q (List.mem_cons_of_mem _ hq))
    have h2 := h p List.mem_cons_self
    simp only [List.map_cons, List.sum_cons, List.length_cons, Nat.add_mul, Nat.one_mul]
    split <;> omega
theorem rising_apart {m : NM} (h : m.Pairwise fun p q => bytesBefore p.1 q.1 = true) : m.Pairwise fun p q => p.1 ≠ q.1 :=
  h.imp fun {p q} h e => by
    rw [e, WideAt.bytes_irrefl] at h
    cases h
theorem nmB_apart {g : Nat → Nat} {m : NM} (h : (nmB g m).Pairwise fun p q => p.1 ≠ q.1) : m.Pairwise fun p q => p.1 ≠ q.1 := by
  have h2 : (m.map fun p => (p.1, g p.2)).Pairwise fun p q => p.1 ≠ q.1 := h
  rw [List.pairwise_map] at h2
  exact h2
theorem has_name (m : NM) {p : Nm × Nat} (h : p ∈ m) : Maps.has (toD m) (.string p.1) = true := by
  unfold toD
  rw [Maps.has_eq, List.any_eq_true]
  exact ⟨_, List.mem_map.2 ⟨p, h, rfl⟩, by show (p.1 == p.1) = true; simp⟩
theorem atKey_name {m : NM} {g : Nat → Nat} {x : Nm} {c : Option Nat} {y : DataW Unit × List MemPlace} (hv : ptrR (vOf c) = some y) (hat : ∀ zd, (toD (nmB g m)).atKey (.string x) zd = y.1) : ∃ i, mlk m x = some i ∧ c = some (g i) := by
  have h1 := hat (.lit (.bool true))
  have h2 := hat (.lit (.bool false))
  rw [toD_at, nmB_lk] at h1 h2
  cases hm : mlk m x with
  | none =>
    rw [hm] at h1 h2
    have := h1.trans h2.symm
    cases this
  | some i =>
    rw [hm] at h1
    obtain ⟨o, ho, hz⟩ := ptrR_inv hv
    have hoc : c = o := by
      cases c <;> cases o <;> simp [vOf] at ho ⊢
      exact ho
    subst hoc
    refine ⟨i, rfl, vOf_inv (hz.symm.trans h1.symm)⟩

theorem wpList_next_names {P : Program} (w : World) {ops : Array Oper} {rest : List Oper} {o : Oper} {a : Act} {Q : Exit → Act → World → Prop}
    (hg : o.guard = none) (it : Operand) (hop : o.op = Op.next it false) (k : TypeId) (hk : P.underlying k = some .string) (b r n : Nat) (m : NM) (g : Nat → Nat) (left : Lit → Bool) (cnt : Nat)
    (hit : a.eval it = .pointer (some ⟨r, 0, none⟩)) (h : w.ranges P k ptrR b r n (toD (nmB g m)) left cnt)
    (hDone : cnt = 0 → (∀ kl, left kl = false) → wpList P ops Q rest (a.put o.dst (.tuple #[.bool false])) w)
    (hMore : ∀ (x : Nm) (i : Nat) (w' : World) (cnt' : Nat), mlk m x = some i → left (.string x) = true → w'.ranges P k ptrR b r n (toD (nmB g m)) (fun z => left z && !z.sameKey (.string x)) cnt' → cnt' < cnt →
      w.grownBy w' (some r) → w'.heap.size = w.heap.size → (Instr.entry (.pointer (some ⟨r, 0, none⟩))).run P w' = .ok (.tuple #[.string (S x), .pointer (some ⟨g i, 0, none⟩)]) w' → wpList P ops Q rest (a.put o.dst (.tuple #[.bool true, .string (S x), .pointer (some ⟨g i, 0, none⟩)])) w') :
    wpList P ops Q (o :: rest) a w :=
  wpList_next_ranges w hg it hop k (string_keyed hk) ptrR encN vOf (fun key kl hkey => by obtain ⟨x, rfl, _⟩ := Maps.keyOf_str hk hkey; exact ⟨x, rfl⟩) (fun v y hv => by obtain ⟨o, rfl, _⟩ := ptrR_inv hv; exact ⟨o, rfl⟩)
    b r n _ left cnt hit h hDone (fun x c kl y w' cnt' hkey hlk hv hat hrg hlt hgr hsz hen => by
      obtain ⟨x', ex, rfl, _⟩ := Maps.keyOf_str hk hkey
      have hx : x = x' := by
        have : S x = S x' := by injection ex
        exact S_inj this
      subst hx
      obtain ⟨i, hi, rfl⟩ := atKey_name hv hat
      exact hMore x i w' cnt' hi hlk hrg hlt hgr hsz hen)
theorem own_shape {base n : Nat} {e : TypeId} {size : Nat} {v : Value} {xs : List Value} (h : w.ownsRow base e size v n xs) : ∃ A cap, v = .slice A n cap ∧ n ≤ cap := by
  rcases h.2 with ⟨rfl, rfl⟩ | ⟨g, cap, cur, rfl, _, _, h1, _⟩
  · exact ⟨_, _, rfl, Nat.le_refl _⟩
  · exact ⟨_, _, rfl, h1⟩
theorem cell_of_block {g : Nat} {cs : Array Value} {t : TypeId} {fz : Nat × Nat} (h : w.heap[g]? = some (.cells cs t fz)) (j : Nat) (v : Value) (hj : cs[j]? = some v) : w.cell? ⟨g, j, none⟩ = some v := by
  unfold World.cell?
  rw [h]
  exact hj
/-- A file's bytes and how many are kept. -/
theorem At.file_at (h : At B G d w) (ho : d.Ok) {i : Nat} (hi : i < d.files.length) : ∃ f A cap, d.files[i]? = some f ∧ G.row i = .slice A f.b.length cap ∧ w.cell? ⟨G.blk i, 0, none⟩ = some (.slice A f.b.length cap) ∧ w.cell? ⟨G.blk i, 1, none⟩ = some (.int .i64 (f.kept : Int)) ∧ f.b.length ≤ 400000 ∧ f.kept ≤ f.b.length := by
  obtain ⟨f, hf⟩ : ∃ f, d.files[i]? = some f := ⟨_, List.getElem?_eq_getElem hi⟩
  obtain ⟨A, cap, he, _⟩ := own_shape (h.files.rows i f hf)
  have hb := h.files.file i f hf
  rw [he] at hb
  have h4 := ho.bytes f (List.mem_of_getElem? hf)
  exact ⟨f, A, cap, hf, he, cell_of_block hb 0 _ rfl, cell_of_block hb 1 _ rfl, h4.1, h4.2⟩
theorem ranges_below {P : Program} {k : TypeId} {R : Value → Option (DataW Unit × List MemPlace)} {b r n : Nat} {D : DataW Unit} {left : Lit → Bool} {cnt : Nat} (h : w.ranges P k R b r n D left cnt) (hb : Below w.heap.size w w') : w'.ranges P k R b r n D left cnt :=
  h.kept (row := none) (below_grown_b hb none) (by simp) (by simp)

set_option maxRecDepth 100000 in
set_option maxHeartbeats 2000000 in
theorem disk_used (h : At B G d w) (ho : d.Ok) : Calls Try.prog 47 #[dp G] w fun e w' => e = .returned (.int .i64 (d.used : Int)) ∧ Below w.heap.size w w' := by
  have l1 := h.l1
  have HN := Lib.hid h.names
  have HA := Lib.hid h
  have HOK := Lib.hid ho
  have HAP := Lib.hid (nmB_apart (rising_apart h.names.rising))
  have hb200 := ho.many
  obtain ⟨len, hlen⟩ : ∃ len : Nat → Nat, len = fun i => (bytesIn d i).length := ⟨_, rfl⟩
  have HU : Hid (d.used = (d.names.map fun p => len p.2).sum) := Lib.hid (by rw [hlen]; rfl)
  have HL : Hid (∀ i f, d.files[i]? = some f → len i = f.b.length) := Lib.hid (fun i f hf => by rw [hlen]; show ((d.files[i]?.map Fl.b).getD []).length = _; rw [hf]; rfl)
  have HLE : Hid (∀ left, sumL d.names len left ≤ 200 * 400000) := Lib.hid (fun left => by
    refine Nat.le_trans (sumL_le len left d.names 400000 (fun p hp => ?_)) (Nat.mul_le_mul_right _ hb200)
    have hf := List.getElem?_eq_getElem (ho.names p hp)
    rw [HL.out _ _ hf]
    exact (ho.bytes _ (List.getElem_mem _)).1)
  clear hlen h ho
  go_enter Try.func47, Try.ntmps47
  go_wp2_with (at_range; refine wpList_range_own _ rfl _ TM rfl 9 71 KS Try.underlying59 ptrR G.mn _ _ rfl HN.out ?_; intro w0 hrg0 hg0 hs0; have HRG := Lib.hid hrg0; have HB0 := Lib.hid (below_of_grown hg0); clear hrg0 hg0 hs0)
  go_frame
  go_loopw [3] (fun nv wr => ∃ left cnt, wr.ranges Try.prog 9 ptrR G.mn w.heap.size (nmB G.blk d.names).length (toD (nmB G.blk d.names)) left cnt ∧ nv = .int .i64 (sumL d.names len left : Int) ∧ Hid (Below w.heap.size w wr)) (fun _ wr => wr.rangeLeft G.mn w.heap.size)
  case atStart =>
    refine ⟨_, _, HRG.out, ?_, HB0⟩
    rw [sumL_zero len _ d.names (fun p hp => by
      have := has_name (nmB G.blk d.names) (p := (p.1, G.blk p.2)) (List.mem_map.2 ⟨p, hp, rfl⟩)
      exact this)]
    rfl
  case round =>
    obtain ⟨left, cnt, hrg, rfl, HB⟩ := hrel
    have HRG2 := Lib.hid hrg
    clear hrg
    go_wp2_with (at_next; refine wpList_next_names _ rfl _ rfl 9 Try.underlying9 G.mn w.heap.size _ d.names G.blk left cnt rfl HRG2.out ?_ ?_)
    · intro _ hl0
      have HE : Hid (sumL d.names len left = d.used) := Lib.hid (by rw [sumL_all len left d.names hl0, HU.out])
      clear hl0
      rw [HE.out]
      go_wp2_with fail
      go_ret
      exact ⟨rfl, HB.out⟩
    · intro x i w2 cnt2 hi hlk hrg2 hlt hgr hsz hen
      have HBB := HB.out
      have hge := HBB.size
      have hgr2 : Below w.heap.size wr w2 := (Below.refl _ wr).grown hgr hge (by intro k hk; cases hk; exact Nat.le_refl _)
      have HB2 := Lib.hid (HBB.trans hgr2)
      have HA2 := HA.out.below HB2.out
      have hi2 := HOK.out.names _ (mlk_mem hi)
      obtain ⟨f, A, cap, hf, -, hc, -, hb4, -⟩ := HA2.file_at HOK.out hi2
      have HS : Hid (sumL d.names len (fun z => left z && !z.sameKey (.string x)) = sumL d.names len left + f.b.length) := Lib.hid (by rw [sumL_step len left hlk d.names HAP.out (mlk_mem hi), HL.out i f hf])
      have HLT : Hid (w2.rangeLeft G.mn w.heap.size < wr.rangeLeft G.mn w.heap.size) := Lib.hid (by rw [hrg2.left_eq, HRG2.out.left_eq]; exact hlt)
      have HRG3 := Lib.hid hrg2
      have hle := HLE.out left
      clear hi hlk hrg2 hlt hgr hsz HBB hgr2 HA2 hi2 hf hge
      generalize hS : sumL d.names len left = sm at *
      clear hS
      go_wp2_with fail
      go_roundw
      case rel => exact ⟨_, _, HRG3.out, by rw [HS.out]; go_num, HB2⟩
      case measure => exact HLT.out
end Go.Proofs.Ytmdecbockpgagaa

/- A file of a disk turns. -/
namespace Go.Proofs.Ytmdecbockpgagaa
open Go.RowKit Go.Maps Go.Proofs.YtmdecbockpgagaaW.PrintWords Go.Proofs.YtmdecbockpgagaaW.PrintMore
variable {B : Nat} {G : DG} {d : DS} {w w' : World}

theorem getD_set_same {α : Type} (l : List α) (x z : α) {i : Nat} (h : i < l.length) : (l.set i x).getD i z = x := by
  rw [List.getD_eq_getElem?_getD, List.getElem?_set_self h]
  rfl
theorem getD_set_other {α : Type} (l : List α) (x z : α) {i j : Nat} (h : i ≠ j) : (l.set i x).getD j z = l.getD j z := by
  rw [List.getD_eq_getElem?_getD, List.getD_eq_getElem?_getD, List.getElem?_set_ne h]
theorem get_set_case {α : Type} {l : List α} {x y : α} {i j : Nat} (h : (l.set i x)[j]? = some y) : (i = j ∧ y = x) ∨ (i ≠ j ∧ l[j]? = some y) := by
  by_cases e : i = j
  · subst e
    have hl := (List.getElem?_eq_some_iff.1 h).1
    rw [List.length_set] at hl
    rw [List.getElem?_set_self hl] at h
    cases h
    exact .inl ⟨rfl, rfl⟩
  · rw [List.getElem?_set_ne e] at h
    exact .inr ⟨e, h⟩
/-- File i turns: its block, its row. -/
structure FTurn (w : World) (G : DG) (i : Nat) (v' : Value) (b' : List Int) (k' : Nat) (B : Nat) (w' : World) : Prop where
  os : w'.os = w.os
  tape : w'.tape = w.tape
  output : w'.output = w.output
  size : w.heap.size ≤ w'.heap.size
  other : ∀ k, k < w.heap.size → G.blk i ≠ k → (G.row i).ownBlock ≠ some k → w'.heap[k]? = w.heap[k]?
  cell : w'.heap[G.blk i]? = some (.cells #[v', .int .i64 (k' : Int)] 79 (0, 0))
  row : OwnB w' B v' b'
  by_ : By b'
  at_ : ∀ g, v'.ownBlock = some g → (G.row i).ownBlock = some g ∨ w.heap.size ≤ g
theorem row_blk {i j g : Nat} (h : At B G d w) (hi : i < d.files.length) (hj : j < d.files.length) (hg : (G.row i).ownBlock = some g) : g ≠ G.blk j := by
  obtain ⟨cur, hb⟩ := own_obj (h.files.rows i _ (List.getElem?_eq_getElem hi)) hg
  exact obj_ne hb (h.files.file j _ (List.getElem?_eq_getElem hj)) (by simp)
theorem At.turn (h : At B G d w) {i : Nat} (hi : i < d.files.length) {v' : Value} {b' : List Int} {k' : Nat} (t : FTurn w G i v' b' k' B w') :
    At B { G with vl := G.vl.set i v' } (setFile d i ⟨b', k'⟩) w' := by
  have hlen : G.vl.length = d.files.length := h.files.nv
  have hf := h.files
  have hne : ∀ {k : Nat}, (∀ g, (G.row i).ownBlock = some g → k ≠ g) → (G.row i).ownBlock ≠ some k := fun hk e => hk _ e rfl
  have hlt : ∀ j, j < d.files.length → G.blk j < w.heap.size := fun j hj => (h.has_lt (has_blk h hj)).2
  refine { cell := ?_, names := ?_, kept := ?_, apart := h.apart, since := ?_, files := ?_, lo := h.lo }
  · exact (t.other _ h.p_lt (h.p_blk hi).symm (hne fun g hg => h.p_row hi hg)).trans h.cell
  · exact h.names.kept (t.other _ h.names.lt (h.mn_blk hi).symm (hne fun g hg => h.mn_row hi hg))
  · refine h.kept.kept (t.other _ h.kept.lt ?_ (hne fun g hg => ?_))
    · obtain ⟨es, clock, hb⟩ := h.kept.obj
      exact obj_ne (hf.file i _ (List.getElem?_eq_getElem hi)) hb (by simp)
    · obtain ⟨es, clock, hb⟩ := h.kept.obj
      obtain ⟨cur, hb2⟩ := own_obj (hf.rows i _ (List.getElem?_eq_getElem hi)) hg
      exact obj_ne hb hb2 (by simp)
  · exact own_keep h.since (fun g hg => t.other g (h.since.lt g hg).2 (h.vs_blk hi hg).symm (hne fun k hk => h.vs_row hi hg hk))
  · refine { nb := ?_, nv := ?_, file := ?_, rows := ?_, bys := ?_, ab := ?_, av := ?_, lo := ?_ }
    · show _ = (d.files.set i _).length
      rw [List.length_set]; exact hf.nb
    · show (G.vl.set i v').length = (d.files.set i _).length
      rw [List.length_set, List.length_set]; exact hlen
    · intro j f hj
      rcases get_set_case hj with ⟨rfl, rfl⟩ | ⟨hij, hj⟩
      · show w'.heap[G.blk i]? = some (.cells #[(G.vl.set i v').getD i _, _] _ _)
        rw [getD_set_same _ _ _ (by omega)]
        exact t.cell
      · have hj' := (List.getElem?_eq_some_iff.1 hj).1
        show w'.heap[G.blk j]? = some (.cells #[(G.vl.set i v').getD j _, _] _ _)
        rw [getD_set_other _ _ _ hij, t.other _ (hlt j hj') (fun e => hij (hf.ab i j hi hj' e)) (hne fun g hg => (row_blk h hi hj' hg).symm)]
        exact hf.file j f hj
    · intro j f hj
      rcases get_set_case hj with ⟨rfl, rfl⟩ | ⟨hij, hj⟩
      · show OwnB w' B ((G.vl.set i v').getD i _) b'
        rw [getD_set_same _ _ _ (by omega)]
        exact t.row
      · have hj' := (List.getElem?_eq_some_iff.1 hj).1
        show OwnB w' B ((G.vl.set i v').getD j _) f.b
        rw [getD_set_other _ _ _ hij]
        refine own_keep (hf.rows j f hj) (fun g hg => t.other g (h.has_lt (has_row h hj' hg)).2 (row_blk h hj' hi hg).symm (fun e => hij (hf.av i j g hi hj' e hg)))
    · intro j f hj
      rcases get_set_case hj with ⟨rfl, rfl⟩ | ⟨hij, hj⟩
      · exact t.by_
      · exact hf.bys j f hj
    · intro a b ha hb
      have ha' : a < (d.files.set i ⟨b', k'⟩).length := ha
      have hb' : b < (d.files.set i ⟨b', k'⟩).length := hb
      rw [List.length_set] at ha' hb'
      exact hf.ab a b ha' hb'
    · intro a b g ha hb h1 h2
      have ha' : a < (d.files.set i ⟨b', k'⟩).length := ha
      have hb' : b < (d.files.set i ⟨b', k'⟩).length := hb
      rw [List.length_set] at ha' hb'
      have h1' : ((G.vl.set i v').getD a (.pointer none)).ownBlock = some g := h1
      have h2' : ((G.vl.set i v').getD b (.pointer none)).ownBlock = some g := h2
      have key : ∀ c, c < d.files.length → c ≠ i → (G.vl.getD c (.pointer none)).ownBlock = some g → v'.ownBlock = some g → False := by
        intro c hc hci hg hv
        rcases t.at_ g hv with ht | hxs
        · exact hci (hf.av c i g hc hi hg ht)
        · have := (h.has_lt (has_row h hc hg)).2
          omega
      by_cases e1 : i = a <;> by_cases e2 : i = b
      · omega
      · subst e1
        rw [getD_set_same _ _ _ (by omega)] at h1'
        rw [getD_set_other _ _ _ e2] at h2'
        exact absurd (key b hb' (Ne.symm e2) h2' h1') id
      · subst e2
        rw [getD_set_same _ _ _ (by omega)] at h2'
        rw [getD_set_other _ _ _ e1] at h1'
        exact absurd (key a ha' (Ne.symm e1) h1' h2') id
      · rw [getD_set_other _ _ _ e1] at h1'
        rw [getD_set_other _ _ _ e2] at h2'
        exact hf.av a b g ha' hb' h1' h2'
    · intro j hj
      have hj' : j < (d.files.set i ⟨b', k'⟩).length := hj
      rw [List.length_set] at hj'
      exact hf.lo j hj'
theorem Tr.turn (h : At B G d w) {i : Nat} (hi : i < d.files.length) {v' : Value} {b' : List Int} {k' : Nat} (t : FTurn w G i v' b' k' B w') : Tr w G w' { G with vl := G.vl.set i v' } := by
  have hlen : G.vl.length = d.files.length := h.files.nv
  refine ⟨t.os, t.tape, t.output, t.size, fun k hk hn => t.other k hk (fun e => hn (e ▸ has_blk h hi)) (fun e => hn (has_row h hi e)), rfl, fun k hk hh => ?_⟩
  rcases hh with hh | hh | hh | hh | hh | ⟨j, hj, hh⟩
  · exact .inl hh
  · exact .inr (.inl hh)
  · exact .inr (.inr (.inl hh))
  · exact .inr (.inr (.inr (.inl hh)))
  · exact .inr (.inr (.inr (.inr (.inl hh))))
  · have hj' : j < (G.vl.set i v').length := hj
    have hh' : ((G.vl.set i v').getD j (.pointer none)).ownBlock = some k := hh
    rw [List.length_set] at hj'
    by_cases e : i = j
    · subst e
      rw [getD_set_same _ _ _ hj'] at hh'
      rcases t.at_ k hh' with ht | hxs
      · exact has_row h hi ht
      · omega
    · rw [getD_set_other _ _ _ e] at hh'
      exact .inr (.inr (.inr (.inr (.inr ⟨j, hj', hh'⟩))))
end Go.Proofs.Ytmdecbockpgagaa

/- disk: Append, Sync. -/
namespace Go.Proofs.Ytmdecbockpgagaa
open Go.RowKit Go.Maps Go.Proofs.YtmdecbockpgagaaW.PrintWords Go.Proofs.YtmdecbockpgagaaW.PrintMore
variable {B : Nat} {G : DG} {d : DS} {w w' : World}

theorem Ok.setF (h : d.Ok) {i : Nat} {f : Fl} (hf : f.b.length ≤ 400000 ∧ f.kept ≤ f.b.length) : (setFile d i f).Ok :=
  { steps := h.steps, failAt := h.failAt, offAt := h.offAt
    names := fun p hp => by show _ < (d.files.set i f).length; rw [List.length_set]; exact h.names p hp
    kept := fun p hp => by show _ < (d.files.set i f).length; rw [List.length_set]; exact h.kept p hp
    since := fun c hc j hj => by show _ < (d.files.set i f).length; rw [List.length_set]; exact h.since c hc j hj
    back := h.back, many := h.many
    bytes := fun g hg => by
      rcases List.mem_or_eq_of_mem_set hg with hg | rfl
      · exact h.bytes g hg
      · exact hf
    manyAt := h.manyAt, sinceN := h.sinceN, lengths := h.lengths }
theorem FTurn.of_append (h : At B G d w) {i : Nat} {f : Fl} (hf : d.files[i]? = some f) {w4 : World} {v' : Value} {b' : List Int} (ho : OwnB w4 B v' b') (hg : w.grownBy w4 (G.row i).ownBlock) (hat : v'.ownBlock = (G.row i).ownBlock ∨ ∃ b, v'.ownBlock = some b ∧ w.heap.size ≤ b) (hby : By b') :
    FTurn w G i v' b' f.kept B (w4.setCell ⟨G.blk i, 0, none⟩ v') := by
  have hi := (List.getElem?_eq_some_iff.1 hf).1
  have hother : ∀ k, G.blk i ≠ k → (w4.setCell ⟨G.blk i, 0, none⟩ v').heap[k]? = w4.heap[k]? := fun k hk => by
    unfold World.setCell
    simp only [Array.getElem?_modify]
    rw [if_neg hk]
  have hc : w4.heap[G.blk i]? = some (.cells #[G.row i, .int .i64 (f.kept : Int)] 79 (0, 0)) :=
    (hg.block _ (h.has_lt (has_blk h hi)).2 (fun e => row_blk h hi hi e.symm rfl)).trans (h.files.file i f hf)
  refine ⟨hg.os, hg.tape, hg.output, by unfold World.setCell; simp; exact hg.size, fun k hk h1 h2 => (hother k h1).trans (hg.block k hk (fun e => h2 e.symm)), ?_, own_keep ho (fun g hg => hother g ?_), hby, fun g hg => by
    rcases hat with h1 | ⟨b, h1, h2⟩
    · exact .inl (h1 ▸ hg)
    · rw [hg] at h1
      cases h1
      exact .inr h2⟩
  · unfold World.setCell
    simp only [Array.getElem?_modify, if_pos, hc]
    rfl
  · obtain ⟨cur, hb⟩ := own_obj ho hg
    exact obj_ne hc hb (by simp)
theorem by_append {xs ys : List Int} (h : By xs) (k : By ys) : By (xs ++ ys) := fun x hx => by
  rcases List.mem_append.1 hx with hx | hx
  · exact h x hx
  · exact k x hx
theorem block_grown {v : Value} {i : Nat} {f : Fl} {w4 : World} (hg : w.grownBy w4 v.ownBlock) (h : At B G d w) (hf : d.files[i]? = some f) (hr : G.row i = v) : w4.heap[G.blk i]? = some (.cells #[G.row i, .int .i64 (f.kept : Int)] 79 (0, 0)) := by
  have hi := (List.getElem?_eq_some_iff.1 hf).1
  refine (hg.block _ (h.has_lt (has_blk h hi)).2 (fun e => ?_)).trans (h.files.file i f hf)
  rw [← hr] at e
  exact row_blk h hi hi e.symm rfl
theorem thaw_grown {v : Value} {i : Nat} {f : Fl} {w4 : World} (hg : w.grownBy w4 v.ownBlock) (h : At B G d w) (hf : d.files[i]? = some f) (hr : G.row i = v) : w4.frozen? ⟨G.blk i, 0, none⟩ = false := by
  unfold World.frozen?
  rw [block_grown hg h hf hr]
  simp
theorem cell_grown {v : Value} {i : Nat} {f : Fl} {w4 : World} (hg : w.grownBy w4 v.ownBlock) (h : At B G d w) (hf : d.files[i]? = some f) (hr : G.row i = v) : w4.cell? ⟨G.blk i, 0, none⟩ = some v := by
  unfold World.cell?
  rw [block_grown hg h hf hr]
  exact congrArg some hr
theorem append_no (d : DS) (s : Nm) (xs : List Int) (i : Nat) (f : Fl) (h0 : d.tick.open_ s [] = 0) (hi : mlk d.names s = some i) (hf : d.files[i]? = some f)
    (hq : d.quota < d.used ∨ d.quota - d.used < xs.length ∨ 400000 - (f.b.length : Int) < xs.length) : d.append s xs = (201, d.tick) := by
  have hi' : mlk d.tick.names s = some i := hi
  have hf' : d.tick.files[i]? = some f := hf
  unfold DS.append
  simp only
  rw [if_neg (by rw [h0]; simp), hi', Option.getD_some, hf', Option.getD_some]
  exact if_pos hq
theorem append_yes (d : DS) (s : Nm) (xs : List Int) (i : Nat) (f : Fl) (h0 : d.tick.open_ s [] = 0) (hi : mlk d.names s = some i) (hf : d.files[i]? = some f)
    (hq : ¬ (d.quota < d.used ∨ d.quota - d.used < xs.length ∨ 400000 - (f.b.length : Int) < xs.length)) : d.append s xs = (0, setFile d.tick i ⟨f.b ++ xs, f.kept⟩) := by
  have hi' : mlk d.tick.names s = some i := hi
  have hf' : d.tick.files[i]? = some f := hf
  unfold DS.append
  simp only
  rw [if_neg (by rw [h0]; simp), hi', Option.getD_some, hf', Option.getD_some]
  exact if_neg hq

set_option maxRecDepth 100000 in
set_option maxHeartbeats 4000000 in
theorem disk_append (h : At B G d w) (ho : d.Ok) (hst : d.steps < 1000000000) (s : List UInt8) (hs : s.length ≤ 1000000) (xs : List Int) (hxs : By xs) (v : Value) (hv : ∀ w', Tr w G w' G → RdB w' v xs) (hq0 : -9223372036854775808 ≤ d.quota) (hq1 : d.quota < 9223372036854775808) :
    Calls Try.prog 21 #[dp G, .string (S s), v] w fun e w' => e = .returned (.int .i64 (d.append s xs).1) ∧ ∃ G', At B G' (d.append s xs).2 w' ∧ Tr w G w' G' := by
  obtain ⟨A, c, rfl, hcap, -⟩ := hv w (Tr.refl w G)
  have HV : Hid (∀ w', Tr w G w' G → ReadsInt w' .u8 A xs.length xs) := Lib.hid (fun w' ht => by
    obtain ⟨A', c', he, -, hr⟩ := hv w' ht
    cases he
    exact hr)
  have hxl := (HV.out w (Tr.refl w G)).2.1
  have HF := Lib.hid (disk_opens h ho hst s hs (RdL.nil w) (by simp) (by simp))
  have HOK := Lib.hid (Ok.tick ho hst)
  have HBY := Lib.hid hxs
  obtain ⟨r, hr⟩ : ∃ r, d.append s xs = r := ⟨_, rfl⟩
  rw [hr]
  have HR := Lib.hid hr
  have HFB := Lib.hid h.files.bys
  clear hr hv h ho hxs
  go_enter Try.func21, Try.ntmps21
  go_wp2_with fail
  refine HF.out.mono ?_
  rintro e w2 ⟨⟨fp, rfl, hfp⟩, ha, ht⟩
  have HA2 := Lib.hid ha
  have HT2 := Lib.hid ht
  clear HF ha ht
  generalize hk : d.tick.open_ s [] = k at *
  have HK := Lib.hid hk
  clear hk
  by_cases h0 : k = 0
  · subst h0
    obtain ⟨i, hi, rfl⟩ := hfp rfl
    simp only [vOf]
    have hlt : i < d.tick.files.length := HOK.out.names _ (mlk_mem (s := s) hi)
    have HU := Lib.hid (disk_used HA2.out HOK.out)
    have hlu : (d.tick.used : Int) ≤ 80000000 := by
      have h1 := sumL_le (fun i => (bytesIn d.tick i).length) (fun _ => false) d.tick.names 400000 (fun p hp => by
        have hf := List.getElem?_eq_getElem (HOK.out.names p hp)
        show (((d.tick.files[p.2]?).map Fl.b).getD []).length ≤ _
        rw [hf]
        exact (HOK.out.bytes _ (List.getElem_mem _)).1)
      rw [sumL_all _ _ _ (fun _ => rfl)] at h1
      have h2 := HOK.out.many
      have h3 : d.tick.used ≤ d.tick.names.length * 400000 := h1
      omega
    have hun : d.tick.used = d.used := rfl
    rw [hun] at hlu HU
    have Hi := Lib.hid hi
    clear hfp hi
    generalize hu : d.used = u at *
    have Hu := Lib.hid hu
    clear hu hun
    go_wp2_with fail
    refine HU.out.mono ?_
    rintro e w3 ⟨rfl, hb⟩
    have HA3 := Lib.hid (HA2.out.below hb)
    have HT3 := Lib.hid (HT2.out.then_below hb)
    obtain ⟨f, Af, cf, hf, hrow, hc0, -, hb4, hkb⟩ := HA3.out.file_at HOK.out hlt
    have l0 := HA3.out.l0
    have hqq : d.tick.quota = d.quota := rfl
    rw [hqq] at l0
    have Hf := Lib.hid hf
    have Hrow := Lib.hid hrow
    clear HU HA2 HT2 hb hf hrow hqq
    by_cases c1 : d.quota < (u : Int)
    · have HE := Lib.hid (append_no d s xs i f HK.out Hi.out Hf.out (.inl (by rw [Hu.out]; exact c1)))
      rw [HR.out] at HE
      go_wp2_with fail
      go_ret
      rw [HE.out]
      exact ⟨rfl, G, HA3.out, HT3.out⟩
    · by_cases c2 : d.quota - (u : Int) < (xs.length : Int)
      · have HE := Lib.hid (append_no d s xs i f HK.out Hi.out Hf.out (.inr (.inl (by rw [Hu.out]; exact c2))))
        rw [HR.out] at HE
        go_wp2_with fail
        go_ret
        rw [HE.out]
        exact ⟨rfl, G, HA3.out, HT3.out⟩
      · by_cases c3 : 400000 - (f.b.length : Int) < (xs.length : Int)
        · have HE := Lib.hid (append_no d s xs i f HK.out Hi.out Hf.out (.inr (.inr c3)))
          rw [HR.out] at HE
          go_wp2_with fail
          go_ret
          rw [HE.out]
          exact ⟨rfl, G, HA3.out, HT3.out⟩
        · have HE := Lib.hid (append_yes d s xs i f HK.out Hi.out Hf.out (by rw [Hu.out]; omega))
          rw [HR.out] at HE
          have HRD := Lib.hid (HV.out w3 HT3.out)
          have HOW : Hid (OwnB w3 B (.slice Af f.b.length cf) f.b) := Lib.hid (by rw [← Hrow.out]; exact HA3.out.files.rows i f Hf.out)
          have HBS := Lib.hid HA3.out.base
          have HL : Hid ((f.b.length + xs.length) * 1 ≤ 140737488355328) := Lib.hid (by omega)
          have hz : w3.frozen? ⟨G.blk i, 0, none⟩ = false := by
            unfold World.frozen?
            rw [show w3.heap[G.blk i]? = _ from HA3.out.files.file i f Hf.out]
            simp
          have HA3f := Lib.hid HA3.out.files.bys
          clear hlt hlu
          go_wp2_with (at_builtin; refine print_append_row (w0 := w3) B rfl _ _ _ _ .u8 1 rfl Try.underlying22 info8 (by omega) (.slice Af f.b.length cf) f.b xs A xs.length c rfl rfl HOW.out HRD.out (Below.refl _ _) HBS.out HL.out ?_; intro v4 w4 ho4 hb4 hg4 hat4; obtain ⟨A4, n4, c4, rfl⟩ := own_slice ho4; have HTU := Lib.hid (FTurn.of_append HA3.out Hf.out ho4 (by rw [Hrow.out]; exact hg4) (by rw [Hrow.out]; exact hat4) (by_append (HA3f.out i f Hf.out) HBY.out)); have hz4 := thaw_grown hg4 HA3.out Hf.out Hrow.out; have hc4 := cell_grown hg4 HA3.out Hf.out Hrow.out; clear ho4 hb4 hg4 hat4 hz)
          go_wp2_with fail
          go_ret
          rw [HE.out]
          have hlt : i < d.tick.files.length := (List.getElem?_eq_some_iff.1 Hf.out).1
          exact ⟨rfl, _, HA3.out.turn hlt HTU.out, HT3.out.trans (Tr.turn HA3.out hlt HTU.out)⟩
  · have HE : Hid (r = (k, d.tick)) := Lib.hid (by
      rw [← HR.out]
      unfold DS.append
      simp only
      rw [HK.out, if_pos h0])
    have hne : (k != 0) = true := bne_iff_ne.2 h0
    clear h0 hfp
    go_wp2_with fail
    go_ret
    rw [HE.out]
    exact ⟨rfl, G, HA2.out, HT2.out⟩
end Go.Proofs.Ytmdecbockpgagaa

/- disk: Sync, Rename, Remove. -/
namespace Go.Proofs.Ytmdecbockpgagaa
open Go.RowKit Go.Maps Go.Proofs.YtmdecbockpgagaaW.PrintWords Go.Proofs.YtmdecbockpgagaaW.PrintMore
variable {B : Nat} {G : DG} {d : DS} {w w' : World}

theorem FTurn.of_sync (h : At B G d w) {i : Nat} {f : Fl} (hf : d.files[i]? = some f) (k : Nat) : FTurn w G i (G.row i) f.b k B (w.setCell ⟨G.blk i, 1, none⟩ (.int .i64 (k : Int))) := by
  have hi := (List.getElem?_eq_some_iff.1 hf).1
  have hother : ∀ k', G.blk i ≠ k' → (w.setCell ⟨G.blk i, 1, none⟩ (.int .i64 (k : Int))).heap[k']? = w.heap[k']? := fun k' hk => by
    unfold World.setCell
    simp only [Array.getElem?_modify]
    rw [if_neg hk]
  have hc : w.heap[G.blk i]? = some (.cells #[G.row i, .int .i64 (f.kept : Int)] 79 (0, 0)) := h.files.file i f hf
  refine ⟨rfl, rfl, rfl, by unfold World.setCell; simp, fun k' _ h1 _ => hother k' h1, ?_, own_keep (h.files.rows i f hf) (fun g hg => hother g (row_blk h hi hi hg).symm), h.files.bys i f hf, fun g hg => .inl hg⟩
  unfold World.setCell
  simp only [Array.getElem?_modify, if_pos, hc]
  rfl
theorem sync_yes (d : DS) (s : Nm) (i : Nat) (f : Fl) (h0 : d.tick.open_ s [] = 0) (hi : mlk d.names s = some i) (hf : d.files[i]? = some f) : d.sync s = (0, setFile d.tick i ⟨f.b, f.b.length⟩) := by
  have hi' : mlk d.tick.names s = some i := hi
  have hf' : d.tick.files[i]? = some f := hf
  unfold DS.sync
  simp only
  rw [if_neg (by rw [h0]; simp), hi', Option.getD_some, hf', Option.getD_some]

set_option maxHeartbeats 2000000 in
theorem disk_sync (h : At B G d w) (ho : d.Ok) (hst : d.steps < 1000000000) (s : List UInt8) (hs : s.length ≤ 1000000) :
    Calls Try.prog 22 #[dp G, .string (S s)] w fun e w' => e = .returned (.int .i64 (d.sync s).1) ∧ ∃ G', At B G' (d.sync s).2 w' ∧ Tr w G w' G' := by
  have HF := Lib.hid (disk_opens h ho hst s hs (RdL.nil w) (by simp) (by simp))
  have HOK := Lib.hid (Ok.tick ho hst)
  obtain ⟨r, hr⟩ : ∃ r, d.sync s = r := ⟨_, rfl⟩
  rw [hr]
  have HR := Lib.hid hr
  clear hr h ho
  go_enter Try.func22, Try.ntmps22
  go_wp2_with fail
  refine HF.out.mono ?_
  rintro e w2 ⟨⟨fp, rfl, hfp⟩, ha, ht⟩
  have HA2 := Lib.hid ha
  have HT2 := Lib.hid ht
  clear HF ha ht
  generalize hk : d.tick.open_ s [] = k at *
  have HK := Lib.hid hk
  clear hk
  by_cases h0 : k = 0
  · subst h0
    obtain ⟨i, hi, rfl⟩ := hfp rfl
    simp only [vOf]
    have hlt : i < d.tick.files.length := HOK.out.names _ (mlk_mem (s := s) hi)
    obtain ⟨f, Af, cf, hf, hrow, hc0, hc1, hb4, hkb⟩ := HA2.out.file_at HOK.out hlt
    have HE := Lib.hid (sync_yes d s i f HK.out hi hf)
    rw [HR.out] at HE
    have HTU := Lib.hid (FTurn.of_sync HA2.out hf f.b.length)
    have hz : w2.frozen? ⟨G.blk i, 1, none⟩ = false := by
      unfold World.frozen?
      rw [show w2.heap[G.blk i]? = _ from HA2.out.files.file i f hf]
      simp
    have Hf := Lib.hid hf
    clear hfp hi hf hrow hlt
    go_wp2_with fail
    go_ret
    rw [HE.out]
    have hlt : i < d.tick.files.length := (List.getElem?_eq_some_iff.1 Hf.out).1
    exact ⟨rfl, _, HA2.out.turn hlt HTU.out, HT2.out.trans (Tr.turn HA2.out hlt HTU.out)⟩
  · have HE : Hid (r = (k, d.tick)) := Lib.hid (by
      rw [← HR.out]
      unfold DS.sync
      simp only
      rw [HK.out, if_pos h0])
    have hne : (k == 0) = false := beq_eq_false_iff_ne.2 h0
    clear h0 hfp
    go_wp2_with fail
    go_ret
    rw [HE.out]
    exact ⟨rfl, G, HA2.out, HT2.out⟩
theorem open_zero {d : DS} {s : Nm} {o : List Nm} (h : d.open_ s o = 0) : d.code (s :: o) = 0 := by
  unfold DS.open_ at h
  split at h
  · rename_i h2
    exact absurd h h2
  · rename_i h2
    simpa using h2
theorem does_gone {m : NM} {s : Nm} {i : Nat} (hs : s ≠ []) (h : mlk m s = some i) : does ⟨none, s, []⟩ m = some (mdel m s) := by
  unfold does
  rw [if_neg hs, h]
  rfl
theorem does_moved {m : NM} {a b : Nm} {i : Nat} (ha : a ≠ []) (hb : b ≠ []) (h : mlk m a = some i) : does ⟨none, a, b⟩ m = some (mput (mdel m a) b i) := by
  unfold does
  rw [if_neg ha, h]
  show some (if b = [] then _ else _) = _
  rw [if_neg hb]

set_option maxHeartbeats 2000000 in
theorem disk_remove (h : At B G d w) (ho : d.Ok) (hst : d.steps < 1000000000) (s : List UInt8) (hs : s.length ≤ 1000000) :
    Calls Try.prog 60 #[dp G, .string (S s)] w fun e w' => e = .returned (.int .i64 (d.remove s).1) ∧ ∃ G', At B G' (d.remove s).2 w' ∧ Tr w G w' G' := by
  have HF := Lib.hid (disk_opens h ho hst s hs (RdL.nil w) (by simp) (by simp))
  have HOK := Lib.hid (Ok.tick ho hst)
  have HOK0 := Lib.hid ho
  obtain ⟨r, hr⟩ : ∃ r, d.remove s = r := ⟨_, rfl⟩
  rw [hr]
  have HR := Lib.hid hr
  clear hr h ho
  go_enter Try.func60, Try.ntmps60
  go_wp2_with fail
  refine HF.out.mono ?_
  rintro e w2 ⟨⟨fp, rfl, hfp⟩, ha, ht⟩
  have HA2 := Lib.hid ha
  have HT2 := Lib.hid ht
  clear HF ha ht
  generalize hk : d.tick.open_ s [] = k at *
  have HK := Lib.hid hk
  clear hk
  by_cases h0 : k = 0
  · subst h0
    obtain ⟨i, hi, rfl⟩ := hfp rfl
    simp only [vOf]
    have hs0 := nameB_ne (code_zero (open_zero HK.out) s List.mem_cons_self)
    have HE : Hid (r = (0, d.tick.changes ⟨none, s, []⟩)) := Lib.hid (by
      rw [← HR.out]
      unfold DS.remove
      simp only
      rw [if_neg (by rw [HK.out]; simp)])
    have h200 := HOK0.out.many
    have hsn := HOK0.out.sinceN
    have HD := Lib.hid (disk_changes HA2.out ⟨none, s, []⟩ _ (does_gone hs0 (show mlk d.tick.names s = some i from hi)) hs (by simp) (show d.names.length ≤ 1000000 by omega) (show d.since.length ≤ 1000000000000 by omega))
    rw [show vOf ((⟨none, s, []⟩ : Chg).f.map G.blk) = .pointer none from rfl] at HD
    clear hfp hi hs0 h200 hsn
    go_wp2_with fail
    refine HD.out.mono ?_
    rintro e w4 ⟨⟨v, rfl⟩, vs', ha, ht⟩
    have HA4 := Lib.hid ha
    have HT4 := Lib.hid (HT2.out.trans ht)
    clear ha ht
    go_wp2_with fail
    go_ret
    rw [HE.out]
    exact ⟨rfl, _, HA4.out, HT4.out⟩
  · have HE : Hid (r = (k, d.tick)) := Lib.hid (by
      rw [← HR.out]
      unfold DS.remove
      simp only
      rw [HK.out, if_pos h0])
    have hne : (k == 0) = false := beq_eq_false_iff_ne.2 h0
    clear h0 hfp
    go_wp2_with fail
    go_ret
    rw [HE.out]
    exact ⟨rfl, G, HA2.out, HT2.out⟩

set_option maxHeartbeats 2000000 in
theorem disk_rename (h : At B G d w) (ho : d.Ok) (hst : d.steps < 1000000000) (s t : List UInt8) (hs : s.length ≤ 1000000) (ht : t.length ≤ 1000000) :
    Calls Try.prog 59 #[dp G, .string (S s), .string (S t)] w fun e w' => e = .returned (.int .i64 (d.rename s t).1) ∧ ∃ G', At B G' (d.rename s t).2 w' ∧ Tr w G w' G' := by
  have HO := Lib.hid (OwnS.rd (base := w.heap.size) (ss := [t]) (own_name w t))
  have HA0 := Lib.hid (h.alloc (.cells #[.string (S t)] 9))
  have HT0 := Lib.hid (Tr.of_below ((Below.refl _ w).alloc (Nat.le_refl _) (.cells #[.string (S t)] 9)) G)
  have HF := Lib.hid (disk_opens HA0.out ho hst s hs HO.out (by simpa using ht) (by simp))
  have HOK := Lib.hid (Ok.tick ho hst)
  have HOK0 := Lib.hid ho
  have heq := S_eq s t
  obtain ⟨r, hr⟩ : ∃ r, d.rename s t = r := ⟨_, rfl⟩
  rw [hr]
  have HR := Lib.hid hr
  clear hr h ho
  go_enter Try.func59, Try.ntmps59
  go_wp2_with fail
  refine HF.out.mono ?_
  rintro e w2 ⟨⟨fp, rfl, hfp⟩, ha, ht2⟩
  have HA2 := Lib.hid ha
  have HT2 := Lib.hid (HT0.out.trans ht2)
  clear HF ha ht2 HA0 HT0 HO
  generalize hk : d.tick.open_ s [t] = k at *
  have HK := Lib.hid hk
  clear hk
  by_cases h0 : k = 0
  · subst h0
    obtain ⟨i, hi, rfl⟩ := hfp rfl
    simp only [vOf]
    by_cases hst2 : s = t
    · have HE : Hid (r = (0, d.tick)) := Lib.hid (by
        rw [← HR.out]
        unfold DS.rename
        simp only
        rw [if_neg (by rw [HK.out]; simp), if_pos hst2])
      rw [decide_eq_true hst2] at heq
      clear hst2 hfp hi
      go_wp2_with fail
      go_ret
      rw [HE.out]
      exact ⟨rfl, G, HA2.out, HT2.out⟩
    · have hs0 := nameB_ne (code_zero (open_zero HK.out) s List.mem_cons_self)
      have ht0 := nameB_ne (code_zero (open_zero HK.out) t (List.mem_cons_of_mem _ List.mem_cons_self))
      have HE : Hid (r = (0, d.tick.changes ⟨none, s, t⟩)) := Lib.hid (by
        rw [← HR.out]
        unfold DS.rename
        simp only
        rw [if_neg (by rw [HK.out]; simp), if_neg hst2])
      have h200 := HOK0.out.many
      have hsn := HOK0.out.sinceN
      have HD := Lib.hid (disk_changes HA2.out ⟨none, s, t⟩ _ (does_moved hs0 ht0 (show mlk d.tick.names s = some i from hi)) hs ht (show d.names.length ≤ 1000000 by omega) (show d.since.length ≤ 1000000000000 by omega))
      rw [show vOf ((⟨none, s, t⟩ : Chg).f.map G.blk) = .pointer none from rfl] at HD
      rw [decide_eq_false hst2] at heq
      clear hfp hi hs0 ht0 h200 hsn hst2
      go_wp2_with fail
      refine HD.out.mono ?_
      rintro e w4 ⟨⟨v, rfl⟩, vs', ha, ht⟩
      have HA4 := Lib.hid ha
      have HT4 := Lib.hid (HT2.out.trans ht)
      clear ha ht
      go_wp2_with fail
      go_ret
      rw [HE.out]
      exact ⟨rfl, _, HA4.out, HT4.out⟩
  · have HE : Hid (r = (k, d.tick)) := Lib.hid (by
      rw [← HR.out]
      unfold DS.rename
      simp only
      rw [HK.out, if_pos h0])
    have hne : (k == 0) = false := beq_eq_false_iff_ne.2 h0
    clear h0 hfp
    go_wp2_with fail
    go_ret
    rw [HE.out]
    exact ⟨rfl, G, HA2.out, HT2.out⟩
end Go.Proofs.Ytmdecbockpgagaa

/- disk: keeps, SyncDir. -/
namespace Go.Proofs.Ytmdecbockpgagaa
open Go.RowKit Go.Maps Go.Proofs.YtmdecbockpgagaaW.PrintWords Go.Proofs.YtmdecbockpgagaaW.PrintMore
variable {B : Nat} {G : DG} {d : DS} {w w' : World}

/-- A disk but for its kept names and its changes. -/
structure AtW (B : Nat) (G : DG) (d : DS) (w : World) : Prop where
  cell : w.heap[G.p]? = some (.cells (pcells G d) 62 (0, 0))
  names : SM w G.mn (nmB G.blk d.names)
  files : FA B G.bl G.vl d.files w
  lo : B ≤ G.p ∧ B ≤ G.mn
theorem At.weak (h : At B G d w) : AtW B G d w := ⟨h.cell, h.names, h.files, h.lo.1, h.lo.2.1⟩
theorem AtW.p_lt (h : AtW B G d w) : G.p < w.heap.size := (Array.getElem?_eq_some_iff.1 h.cell).1
theorem AtW.p_mn (h : AtW B G d w) : G.p ≠ G.mn := by
  obtain ⟨es, clock, hb⟩ := h.names.obj
  exact obj_ne h.cell hb (by simp)
theorem AtW.p_blk (h : AtW B G d w) {i : Nat} (hi : i < d.files.length) : G.p ≠ G.bl.getD i 0 :=
  obj_ne h.cell (h.files.file i _ (List.getElem?_eq_getElem hi)) (by simp)
theorem AtW.p_row (h : AtW B G d w) {i g : Nat} (hi : i < d.files.length) (hg : (G.vl.getD i (.pointer none)).ownBlock = some g) : G.p ≠ g := by
  obtain ⟨cur, hb⟩ := own_obj (h.files.rows i _ (List.getElem?_eq_getElem hi)) hg
  exact obj_ne h.cell hb (by simp)
theorem FA.keep_below {bl : List Nat} {vl : List Value} {fs : List Fl} (h : FA B bl vl fs w) (hb : Below w.heap.size w w') : FA B bl vl fs w' :=
  h.keep (fun i hi => hb.block _ (Array.getElem?_eq_some_iff.1 (h.file i _ (List.getElem?_eq_getElem hi))).1) (fun i g hi hg => hb.block g (World.ownsRow.lt (h.rows i _ (List.getElem?_eq_getElem hi)) g hg).2)
def DS.keeps (d : DS) : DS := { d with kept := d.names, since := [] }
theorem AtW.keeps (h : AtW B G d w) {w1 : World} (hb : Below w.heap.size w w1) (h1 : SM w1 w.heap.size (nmB G.blk d.names)) :
    At B { G with mq := w.heap.size, vs := .slice none 0 0 } d.keeps ((w1.setCell ⟨G.p, 2, none⟩ (.map (some w.heap.size))).setCell ⟨G.p, 3, none⟩ (.slice none 0 0)) := by
  have hother : ∀ k, G.p ≠ k → ((w1.setCell ⟨G.p, 2, none⟩ (.map (some w.heap.size))).setCell ⟨G.p, 3, none⟩ (.slice none 0 0)).heap[k]? = w1.heap[k]? := fun k hk => by
    unfold World.setCell
    simp only [Array.getElem?_modify]
    rw [if_neg hk, if_neg hk]
  have hc : w1.heap[G.p]? = some (.cells (pcells G d) 62 (0, 0)) := (hb.block _ h.p_lt).trans h.cell
  have hpl := h.p_lt
  refine { cell := ?_, names := ?_, kept := ?_, apart := ?_, since := ?_, files := ?_, lo := ⟨h.lo.1, h.lo.2, by have := h.lo.1; show B ≤ w.heap.size; omega⟩ }
  · unfold World.setCell
    simp only [Array.getElem?_modify, if_pos, hc]
    rfl
  · exact (h.names.below hb).kept (hother _ h.p_mn)
  · exact h1.kept (hother _ (by show G.p ≠ w.heap.size; omega))
  · have := h.names.lt
    show G.mn ≠ w.heap.size
    omega
  · exact World.ownsRow_nil _ _ _ _
  · exact (h.files.keep_below hb).keep (fun i hi => hother _ (h.p_blk hi)) (fun i g hi hg => hother _ (h.p_row hi hg))
theorem Tr.keeps {w1 : World} (hb : Below w.heap.size w w1) : Tr w G ((w1.setCell ⟨G.p, 2, none⟩ (.map (some w.heap.size))).setCell ⟨G.p, 3, none⟩ (.slice none 0 0)) { G with mq := w.heap.size, vs := .slice none 0 0 } := by
  refine ⟨hb.os, hb.tape, hb.output, by unfold World.setCell; simp; exact hb.size, fun k hk hn => ?_, rfl, fun k hk hh => ?_⟩
  · have : ((w1.setCell ⟨G.p, 2, none⟩ (.map (some w.heap.size))).setCell ⟨G.p, 3, none⟩ (.slice none 0 0)).heap[k]? = w1.heap[k]? := by
      unfold World.setCell
      simp only [Array.getElem?_modify]
      rw [if_neg (fun e => hn (.inl e.symm)), if_neg (fun e => hn (.inl e.symm))]
    rw [this]
    exact hb.block k hk
  · rcases hh with hh | hh | hh | hh | hh | hh
    · exact .inl hh
    · exact .inr (.inl hh)
    · have hh' : k = w.heap.size := hh
      omega
    · cases hh
    · exact .inr (.inr (.inr (.inr (.inl hh))))
    · exact .inr (.inr (.inr (.inr (.inr hh))))

set_option maxHeartbeats 2000000 in
theorem disk_keeps (h : AtW B G d w) : Calls Try.prog 43 #[dp G] w fun e w' => (∃ v, e = .returned v) ∧ At B { G with mq := w.heap.size, vs := .slice none 0 0 } d.keeps w' ∧ Tr w G w' { G with mq := w.heap.size, vs := .slice none 0 0 } := by
  have l1 := cell_of_block h.cell 1 (.map (some G.mn)) rfl
  have HF := Lib.hid (lib_clone ptrR G.mn _ _ w h.names)
  have HA := Lib.hid h
  have hpl := h.p_lt
  have HC := Lib.hid h.cell
  clear h
  go_enter Try.func43, Try.ntmps43
  go_wp2_with fail
  refine HF.out.mono ?_
  rintro e w1 ⟨rfl, h1, -, hb⟩
  have HE := Lib.hid (HA.out.keeps hb (SM.fit h1))
  have HT := Lib.hid (Tr.keeps (G := G) hb)
  have hc : w1.heap[G.p]? = some (.cells (pcells G d) 62 (0, 0)) := (hb.block _ hpl).trans HC.out
  have z2 : w1.frozen? ⟨G.p, 2, none⟩ = false := by unfold World.frozen?; rw [hc]; simp
  have z3 : (w1.setCell ⟨G.p, 2, none⟩ (.map (some w.heap.size))).frozen? ⟨G.p, 3, none⟩ = false := by
    unfold World.frozen? World.setCell
    simp only [Array.getElem?_modify, if_pos, hc]
    simp
  have c2 := cell_of_block hc 2 (.map (some G.mq)) rfl
  have c3 : (w1.setCell ⟨G.p, 2, none⟩ (.map (some w.heap.size))).cell? ⟨G.p, 3, none⟩ = some G.vs := by
    unfold World.cell? World.setCell
    simp only [Array.getElem?_modify, if_pos, hc]
    rfl
  clear HF HA h1 hb hc l1
  go_wp2_with fail
  go_end0
  exact ⟨⟨_, rfl⟩, HE.out, HT.out⟩
theorem Ok.keeps (h : d.Ok) : d.keeps.Ok :=
  { steps := h.steps, failAt := h.failAt, offAt := h.offAt, names := h.names, kept := h.names, since := fun _ hc => (by cases hc), back := rfl, many := h.many, bytes := h.bytes
    manyAt := fun k m hm => (by
      have h2 : replay d.names (([] : List Chg).take k) = some m := hm
      rw [List.take_nil] at h2
      cases h2
      exact h.many)
    sinceN := by have := h.steps.1; show ((([] : List Chg).length : Int)) ≤ 2 * d.steps; simp; omega
    lengths := fun _ hc => (by cases hc) }

set_option maxHeartbeats 2000000 in
theorem disk_syncDir (h : At B G d w) (ho : d.Ok) (hst : d.steps < 1000000000) :
    Calls Try.prog 23 #[dp G] w fun e w' => e = .returned (.int .i64 (d.syncDir).1) ∧ ∃ G', At B G' (d.syncDir).2 w' ∧ Tr w G w' G' := by
  have HF := Lib.hid (disk_step h ho hst (RdL.nil w) (by simp) (by simp))
  obtain ⟨r, hr⟩ : ∃ r, d.syncDir = r := ⟨_, rfl⟩
  rw [hr]
  have HR := Lib.hid hr
  clear hr h ho
  go_enter Try.func23, Try.ntmps23
  go_wp2_with fail
  refine HF.out.mono ?_
  rintro e w2 ⟨rfl, ha, ht⟩
  have HA2 := Lib.hid ha
  have HT2 := Lib.hid ht
  clear HF ha ht
  generalize hk : d.tick.code [] = k at *
  have HK := Lib.hid hk
  clear hk
  by_cases h0 : k = 0
  · subst h0
    have HE : Hid (r = (0, d.tick.keeps)) := Lib.hid (by
      rw [← HR.out]
      unfold DS.syncDir
      simp only
      rw [if_neg (by rw [HK.out]; simp)]
      rfl)
    have HD := Lib.hid (disk_keeps HA2.out.weak)
    go_wp2_with fail
    refine HD.out.mono ?_
    rintro e w4 ⟨⟨v, rfl⟩, ha, ht⟩
    have HA4 := Lib.hid ha
    have HT4 := Lib.hid (HT2.out.trans ht)
    clear ha ht
    go_wp2_with fail
    go_ret
    rw [HE.out]
    exact ⟨rfl, _, HA4.out, HT4.out⟩
  · have HE : Hid (r = (k, d.tick)) := Lib.hid (by
      rw [← HR.out]
      unfold DS.syncDir
      simp only
      rw [HK.out, if_pos h0])
    have hne : (k == 0) = false := beq_eq_false_iff_ne.2 h0
    clear h0
    go_wp2_with fail
    go_ret
    rw [HE.out]
    exact ⟨rfl, G, HA2.out, HT2.out⟩
end Go.Proofs.Ytmdecbockpgagaa

/- disk: New, Used, Steps, from, Fail, Power, Read. -/
namespace Go.Proofs.Ytmdecbockpgagaa
open Go.RowKit Go.Maps Go.Proofs.YtmdecbockpgagaaW.PrintWords Go.Proofs.YtmdecbockpgagaaW.PrintMore
variable {B : Nat} {G : DG} {d : DS} {w w' : World}

theorem newD_ok (q : Int) : (newD q).Ok :=
  { steps := ⟨Int.le_refl 0, by show (0 : Int) ≤ 1000000000; decide⟩, failAt := ⟨Int.le_refl 0, by show (0 : Int) ≤ 1200000000000; decide⟩, offAt := ⟨Int.le_refl 0, by show (0 : Int) ≤ 1200000000000; decide⟩, names := fun _ hp => (by cases hp), kept := fun _ hp => (by cases hp), since := fun _ hc => (by cases hc), back := rfl, many := Nat.zero_le _
    bytes := fun _ hf => (by cases hf), manyAt := fun k m hm => (by
      have h2 : replay ([] : NM) (([] : List Chg).take k) = some m := hm
      rw [List.take_nil] at h2
      cases h2
      exact Nat.zero_le _), sinceN := by show ((0 : Nat) : Int) ≤ 2 * 0; decide, lengths := fun _ hc => (by cases hc) }
def newG (n : Nat) : DG := ⟨n + 2, n, n + 1, .slice none 0 0, [], []⟩
theorem newG_has {n k : Nat} (h : (newG n).has k) : n ≤ k := by
  rcases h with h | h | h | h | ⟨i, hi, _⟩ | ⟨i, hi, _⟩
  · have h' : k = n + 2 := h
    omega
  · have h' : k = n := h
    omega
  · have h' : k = n + 1 := h
    omega
  · cases h
  · exact absurd hi (Nat.not_lt_zero _)
  · exact absurd hi (Nat.not_lt_zero _)
theorem at_new (w : World) (q : Int) : At w.heap.size (newG w.heap.size) (newD q) (((w.alloc (.map #[] 0)).alloc (.map #[] 0)).alloc (.cells #[.int .i64 q, .map (some w.heap.size), .map (some (w.heap.size + 1)), .slice none 0 0, .int .i64 0, .int .i64 0, .int .i64 0] 62)) := by
  have h1 : SM (w.alloc (.map #[] 0)) w.heap.size [] := SM.made w
  have h2 := SM.made (w.alloc (.map #[] 0))
  have hs : (w.alloc (.map #[] 0)).heap.size = w.heap.size + 1 := by simp
  rw [hs] at h2
  have hs2 : ((w.alloc (.map #[] 0)).alloc (.map #[] 0)).heap.size = w.heap.size + 2 := by simp
  refine { cell := ?_, names := ?_, kept := ?_, apart := ?_, since := World.ownsRow_nil _ _ _ _, files := ?_, lo := ⟨by show w.heap.size ≤ w.heap.size + 2; omega, Nat.le_refl _, by show w.heap.size ≤ w.heap.size + 1; omega⟩ }
  · have := heap_alloc_new ((w.alloc (.map #[] 0)).alloc (.map #[] 0)) (.cells #[.int .i64 q, .map (some w.heap.size), .map (some (w.heap.size + 1)), .slice none 0 0, .int .i64 0, .int .i64 0, .int .i64 0] 62)
    rw [hs2] at this
    exact this
  · exact ((h1.below ((Below.refl _ _).alloc (Nat.le_refl _) _)).below ((Below.refl _ _).alloc (Nat.le_refl _) _))
  · exact h2.below ((Below.refl _ _).alloc (Nat.le_refl _) _)
  · show w.heap.size ≠ w.heap.size + 1
    omega
  · exact { nb := rfl, nv := rfl, file := fun i f hf => (by simp [newD] at hf), rows := fun i f hf => (by simp [newD] at hf), bys := fun i f hf => (by simp [newD] at hf), ab := fun i j hi => absurd hi (Nat.not_lt_zero _), av := fun i j g hi => absurd hi (Nat.not_lt_zero _), lo := fun i hi => absurd hi (Nat.not_lt_zero _) }
set_option maxHeartbeats 1000000 in
theorem disk_new (w : World) (q : Int) : Calls Try.prog 11 #[.int .i64 q] w fun e w' => e = .returned (dp (newG w.heap.size)) ∧ At w.heap.size (newG w.heap.size) (newD q) w' ∧ Below w.heap.size w w' := by
  have HA := Lib.hid (at_new w q)
  have hmk := fun W => run_makeMap (P := Try.prog) 59 W
  go_enter Try.func11, Try.ntmps11
  go_wp2_with fail
  go_ret
  exact ⟨rfl, HA.out, (((Below.refl _ w).alloc (Nat.le_refl _) _).alloc (by simp) _).alloc (by simp; omega) _⟩
theorem disk_from (h : At B G d w) (ho : d.Ok) (a : Int) (ha0 : -9223372036854775808 ≤ a) (ha1 : a < 9223372036854775808) : Calls Try.prog 51 #[dp G, .int .i64 a] w fun e w' => e = .returned (.int .i64 (d.from_ a)) ∧ w' = w := by
  have l4 := h.l4
  have ⟨s0, s1⟩ := ho.steps
  have HE : Hid (d.from_ a = if a ≤ 0 then 0 else d.steps + min a 1099511627776) := Lib.hid rfl
  clear h ho
  generalize d.from_ a = r at HE ⊢
  generalize d.steps = st at *
  go_enter Try.func51, Try.ntmps51
  by_cases h0 : a ≤ 0
  · have HE2 := Lib.hid (show r = 0 from HE.out.trans (if_pos h0))
    clear HE
    go_wp2_with fail
    go_ret
    rw [HE2.out]
    exact ⟨rfl, rfl⟩
  · have HE2 := Lib.hid (show r = st + min a 1099511627776 from HE.out.trans (if_neg h0))
    clear HE
    have hm0 : 0 ≤ min a 1099511627776 := by omega
    have hm1 : min a 1099511627776 ≤ 1099511627776 := by omega
    go_wp2_with fail
    go_ret
    rw [HE2.out]
    exact ⟨rfl, rfl⟩
theorem Ok.fail (h : d.Ok) (a : Int) : (d.fail a).Ok := by
  have ⟨s0, s1⟩ := h.steps
  refine { steps := h.steps, failAt := ?_, offAt := h.offAt, names := h.names, kept := h.kept, since := h.since, back := h.back, many := h.many, bytes := h.bytes, manyAt := h.manyAt, sinceN := h.sinceN, lengths := h.lengths }
  show 0 ≤ d.from_ a ∧ d.from_ a ≤ _
  unfold DS.from_
  split <;> omega
theorem Ok.power (h : d.Ok) (a : Int) : (d.power a).Ok := by
  have ⟨s0, s1⟩ := h.steps
  unfold DS.power
  split
  · exact h
  · refine { steps := h.steps, failAt := h.failAt, offAt := ?_, names := h.names, kept := h.kept, since := h.since, back := h.back, many := h.many, bytes := h.bytes, manyAt := h.manyAt, sinceN := h.sinceN, lengths := h.lengths }
    show 0 ≤ d.from_ a ∧ d.from_ a ≤ _
    unfold DS.from_
    split <;> omega
theorem disk_fail (h : At B G d w) (ho : d.Ok) (a : Int) (ha0 : -9223372036854775808 ≤ a) (ha1 : a < 9223372036854775808) : Calls Try.prog 27 #[dp G, .int .i64 a] w fun e w' => (∃ v, e = .returned v) ∧ At B G (d.fail a) w' ∧ Tr w G w' G := by
  have l5 := h.l5
  have hz := h.thaw 5
  have HF := Lib.hid (disk_from h ho a ha0 ha1)
  have HA : Hid (At B G (d.fail a) (w.setCell ⟨G.p, 5, none⟩ (.int .i64 (d.from_ a)))) := Lib.hid (h.setP 5 _ rfl rfl rfl rfl rfl)
  have HT := Lib.hid (Tr.setCell w G 5 (.int .i64 (d.from_ a)))
  clear h ho
  go_enter Try.func27, Try.ntmps27
  go_wp2_with fail
  refine HF.out.mono ?_
  rintro e w1 ⟨rfl, rfl⟩
  go_wp2_with fail
  go_end0
  exact ⟨⟨_, rfl⟩, HA.out, HT.out⟩
theorem disk_power (h : At B G d w) (ho : d.Ok) (a : Int) (ha0 : -9223372036854775808 ≤ a) (ha1 : a < 9223372036854775808) : Calls Try.prog 28 #[dp G, .int .i64 a] w fun e w' => (∃ v, e = .returned v) ∧ At B G (d.power a) w' ∧ Tr w G w' G := by
  have HF := Lib.hid (disk_off h ho)
  have HH := Lib.hid h
  have HO := Lib.hid ho
  have HE : Hid (d.power a = if d.off then d else { d with offAt := d.from_ a }) := Lib.hid rfl
  clear h ho
  generalize d.off = of at HE HF
  go_enter Try.func28, Try.ntmps28
  go_wp2_with fail
  refine HF.out.mono ?_
  rintro e w1 ⟨rfl, hb⟩
  have HA := Lib.hid (HH.out.below hb)
  have HT := Lib.hid (Tr.of_below hb G)
  clear HF hb HH
  cases of with
  | true =>
    have HE2 := Lib.hid (show d.power a = d from HE.out.trans (if_pos rfl))
    clear HE
    go_wp2_with fail
    go_end0
    rw [HE2.out]
    exact ⟨⟨_, rfl⟩, HA.out, HT.out⟩
  | false =>
    have HE2 := Lib.hid (show d.power a = { d with offAt := d.from_ a } from HE.out.trans (if_neg (by decide)))
    clear HE
    have l6 := HA.out.l6
    have hz := HA.out.thaw 6
    have HF := Lib.hid (disk_from HA.out HO.out a ha0 ha1)
    have HA2 : Hid (At B G { d with offAt := d.from_ a } (w1.setCell ⟨G.p, 6, none⟩ (.int .i64 (d.from_ a)))) := Lib.hid (HA.out.setP 6 _ rfl rfl rfl rfl rfl)
    have HT2 := Lib.hid (HT.out.trans (Tr.setCell w1 G 6 (.int .i64 (d.from_ a))))
    clear HA HT
    go_wp2_with fail
    refine HF.out.mono ?_
    rintro e w2 ⟨rfl, rfl⟩
    go_wp2_with fail
    go_end0
    rw [HE2.out]
    exact ⟨⟨_, rfl⟩, HA2.out, HT2.out⟩
end Go.Proofs.Ytmdecbockpgagaa

/- disk: Read. -/
namespace Go.Proofs.Ytmdecbockpgagaa
open Go.RowKit Go.Maps Go.Proofs.YtmdecbockpgagaaW.PrintWords Go.Proofs.YtmdecbockpgagaaW.PrintMore
variable {B : Nat} {G : DG} {d : DS} {w w' : World}

set_option maxHeartbeats 1000000 in
theorem clone_bytes (w : World) (v : Value) (xs : List Int) (hv : RdB w v xs) (hl : xs.length ≤ 1000000000) :
    Calls Try.prog 42 #[v] w fun e w' => ∃ v', e = .returned v' ∧ OwnB w' w.heap.size v' xs ∧ Below w.heap.size w w' := by
  obtain ⟨A, c, rfl, hcap, hr⟩ := hv
  have hq : ∀ (w : World) (a : Option Addr) (n c n' c' : Nat), (binOp .eql 22 (.slice a n c) (.slice none n' c')).run Try.prog w = .ok (.bool a.isNone) w := fun w a n c n' c' => Lib.run_eql_slice_nil w _ _ a n c n' c' Try.underlying22
  cases A with
  | none =>
    have hx : xs = [] := by
      cases xs with
      | nil => rfl
      | cons x r =>
        obtain ⟨ad, h, _⟩ := hr.2.2 (by simp)
        cases h
    have HX := Lib.hid hx
    clear hr hx
    go_enter Try.func42, Try.ntmps42
    go_wp2_with fail
    go_ret
    rw [HX.out]
    exact ⟨_, rfl, OwnB.nil _ _, Below.refl _ _⟩
  | some a =>
    have HR := Lib.hid (hr.below ((Below.refl _ w).alloc (Nat.le_refl _) (.cells #[] 5)))
    have HO : Hid (OwnB (w.alloc (.cells #[] 5)) w.heap.size (.slice (some ⟨w.heap.size, 0, none⟩) 0 0) []) := Lib.hid (own_litB w w.heap.size [] (Nat.le_refl _) (by decide))
    have HB := Lib.hid ((Below.refl _ w).alloc (Nat.le_refl w.heap.size) (.cells #[] 5))
    clear hr
    go_enter Try.func42, Try.ntmps42
    go_wp2_with (at_builtin; refine print_append_row (w0 := w) w.heap.size rfl _ _ _ _ .u8 1 rfl Try.underlying22 info8 (by omega) (.slice (some ⟨w.heap.size, 0, none⟩) 0 0) [] xs (some a) xs.length c rfl rfl HO.out HR.out HB.out (by simp) (by simp; omega) ?_; intro v4 w4 ho4 hb4 hg4 hat4; rw [List.nil_append] at ho4; have HO4 := Lib.hid ho4; have HB4 := Lib.hid hb4; clear ho4 hb4 hg4 hat4)
    go_ret
    exact ⟨_, rfl, HO4.out, HB4.out⟩

set_option maxHeartbeats 1000000 in
theorem disk_read (h : At B G d w) (ho : d.Ok) (s : List UInt8) (hs : s.length ≤ 1000000) :
    Calls Try.prog 30 #[dp G, .string (S s)] w fun e w' => (∃ v, e = .returned (.tuple #[v, .int .i64 (d.read s).1]) ∧ OwnB w' w.heap.size v (d.read s).2) ∧ Below w.heap.size w w' := by
  have HF := Lib.hid (disk_off h ho)
  have HH := Lib.hid h
  have HOK := Lib.hid ho
  obtain ⟨r, hr⟩ : ∃ r, d.read s = r := ⟨_, rfl⟩
  rw [hr]
  have HE : Hid (r = if d.off then ((203 : Int), ([] : List Int)) else match mlk d.names s with | none => (200, []) | some i => (0, bytesIn d i)) := Lib.hid hr.symm
  clear h ho hr
  generalize d.off = of at HE HF
  go_enter Try.func30, Try.ntmps30
  go_wp2_with fail
  refine HF.out.mono ?_
  rintro e w1 ⟨rfl, hb⟩
  have HB := Lib.hid hb
  have HA := Lib.hid (HH.out.below hb)
  clear HF HH hb
  cases of with
  | true =>
    have HE2 := Lib.hid (show r = ((203 : Int), ([] : List Int)) from HE.out.trans (if_pos rfl))
    clear HE
    go_wp2_with fail
    go_ret2
    rw [HE2.out]
    exact ⟨⟨_, rfl, OwnB.nil _ _⟩, HB.out⟩
  | false =>
    have HE2 := Lib.hid (show r = (match mlk d.names s with | none => ((200 : Int), ([] : List Int)) | some i => (0, bytesIn d i)) from HE.out.trans (if_neg (by decide)))
    have l1 := HA.out.l1
    have hlk := disk_lookup HA.out s hs
    clear HE
    cases hm : mlk d.names s with
    | none =>
      rw [hm] at hlk HE2
      replace hlk : (Instr.lookup TM (.map (some G.mn)) (.string (S s)) false).run Try.prog w1 = .ok (.pointer none) w1 := hlk
      clear hm
      go_wp2_with fail
      go_ret2
      rw [HE2.out]
      exact ⟨⟨_, rfl, OwnB.nil _ _⟩, HB.out⟩
    | some i =>
      rw [hm] at hlk HE2
      replace hlk : (Instr.lookup TM (.map (some G.mn)) (.string (S s)) false).run Try.prog w1 = .ok (.pointer (some ⟨G.blk i, 0, none⟩)) w1 := hlk
      obtain ⟨f, Af, cf, hf, hrow, hc0, hc1, hb4, hkb⟩ := HA.out.file_at HOK.out (HOK.out.names _ (mlk_mem hm))
      have hbi : bytesIn d i = f.b := by unfold bytesIn; rw [hf]; rfl
      have HE3 := Lib.hid (show r = ((0 : Int), f.b) by rw [HE2.out]; show (_, bytesIn d i) = _; rw [hbi])
      have HD := Lib.hid (clone_bytes w1 (.slice Af f.b.length cf) f.b (by rw [← hrow]; exact (HA.out.files.rows i f hf).rd) (by omega))
      clear hm hbi hf hrow HE2
      go_wp2_with fail
      refine HD.out.mono ?_
      rintro e w2 ⟨v', rfl, ho2, hb2⟩
      have HO2 := Lib.hid (ho2.lower HB.out.size)
      have HB2 := Lib.hid (HB.out.trans (hb2.mono HB.out.size))
      clear HD ho2 hb2
      go_wp2_with fail
      go_ret2
      rw [HE3.out]
      exact ⟨⟨_, rfl, HO2.out⟩, HB2.out⟩
end Go.Proofs.Ytmdecbockpgagaa
