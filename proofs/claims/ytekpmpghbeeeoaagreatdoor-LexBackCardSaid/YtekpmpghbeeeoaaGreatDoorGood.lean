import Derived.Test.YtekpmpghbeeeoaaGreatDoorRunes
/- The contract of utf.Good. -/
namespace Go.Proofs.YtekpmpghbeeeoaaGreatDoor
open Go.RowKit Go.Shelf Go.Proofs.YtekpmpghbeeeoaaGreatDoorW.PrintWords Go.Proofs.YtekpmpghbeeeoaaGreatDoorW.PrintMore

attribute [local go_sem] Oper.semAt_some

def GoodI (w : World) (pre : List Stp) (W : World) : Prop :=
  Below w.heap.size w W ∧ w.heap.size + 2 ≤ W.heap.size ∧ Boxed W w.heap.size 4 (.bool false) ∧ pre.all (·.2.2) = true
def GoodX (w : World) (c : Code) (pre : List Stp) (W : World) : Prop :=
  c = .ret ∧ Below w.heap.size w W ∧ Boxed W w.heap.size 4 (.bool false) ∧ pre.all (·.2.2) = false

set_option maxRecDepth 100000 in
set_option maxHeartbeats 4000000 in
theorem good_in (n : Nat) (hn : 1 ≤ n) (A : Option Addr) (c : Nat) (bs : List Int) (w : World) (hr : RdB w (.slice A bs.length c) bs) (hby : By bs) (hT : Tabs w) :
    CallsIn Fence.wide n Tryz.prog 62 #[.slice A bs.length c] w fun e w' => e = .returned (.bool (allGood bs)) ∧ Below w.heap.size w w' := by
  refine callsIn_of_wp_marks Tryz.func62 rfl trivial ?_ rfl
  simp only [Tryz.ntmps62, List.size_toArray, List.length_cons, List.length_nil, Nat.reduceAdd, Nat.reduceSub, Array.replicate_succ, Array.replicate_zero, List.push_toArray, List.append_toArray, List.nil_append, List.cons_append]
  gi_wp2_with fail
  refine ⟨trivial, (steps_in (n - 1) A bs.length c _).mono ?_⟩
  rintro e w' ⟨rfl, rfl⟩
  have b1 := Boxed.new w 4 (.bool false)
  have b3 := Boxed.new (w.alloc (.cells #[.bool false] 4)) 39 (.slice A bs.length c)
  simp only [World.size_alloc] at b3
  have hB0 : Below w.heap.size w ((w.alloc (.cells #[.bool false] 4)).alloc (.cells #[.slice A bs.length c] 39)) := ((Below.refl _ w).alloc (Nat.le_refl _) _).alloc (by simp) _
  have hI0 : GoodI w [] ((w.alloc (.cells #[.bool false] 4)).alloc (.cells #[.slice A bs.length c] 39)) := ⟨hB0, by simp, b1.alloc _, rfl⟩
  have hsz : ((w.alloc (.cells #[.bool false] 4)).alloc (.cells #[.slice A bs.length c] 39)).heap.size = w.heap.size + 2 := by simp
  generalize ((w.alloc (.cells #[.bool false] 4)).alloc (.cells #[.slice A bs.length c] 39)) = W0 at b3 hB0 hI0 hsz ⊢
  clear b1
  simp only [World.size_alloc]
  gi_wp2_with fail
  refine wpIn_rangeA (gf := 96) (lb := #[.pointer (some ⟨w.heap.size + 1, 0, none⟩)]) rfl (enters_of Tryz.func96 (by kernel_rfl) rfl)
    (steps_seq (n - 1) (w.heap.size + 1) w.heap.size w W0 A c bs rfl hr hby hT hB0 b3)
    (fun h k => ⟨h.1.trans k.1, k.2.trans h.2⟩)
    (fun W l o o' hl ho hc => ⟨(Below.refl _ W).grown (grownBy_putObj' W l o') (by have := (Array.getElem?_eq_some_iff.1 ho).1; omega) (fun k e => by cases e; omega), World.putObj_heap_other (by omega)⟩)
    (Below.refl _ _) (fun _ => rfl) (fun k e => e.elim) (fun s x X Y h _ => h)
    (GoodI w) (GoodX w) (fun s X Y h t => ⟨t.below h.1 (Nat.le_refl _) (by omega) (fun k e => e.elim), Nat.le_trans h.2.1 t.size, t.boxed h.2.2.1 (fun e => e), h.2.2.2⟩)
    (fun c s X Y h t => ⟨h.1, t.below h.2.1 (Nat.le_refl _) (by omega) (fun k e => e.elim), t.boxed h.2.2.1 (fun e => e), h.2.2.2⟩) hI0
    (fun pre x a1 W => ∃ Bx, w.heap.size + 2 ≤ Bx ∧ W.heap[Bx]? = some (.cells #[.int .i32 x.1, .int .i64 (x.2.1 : Int), .bool x.2.2] 102 (0, 0)) ∧
      a1 = { tmps := #[.slice A bs.length c, undef, .pointer (some ⟨w.heap.size, 0, none⟩), .pointer (some ⟨Bx, 0, none⟩), .slice A bs.length c, .func (.func 96) #[] #[.pointer (some ⟨w.heap.size + 1, 0, none⟩)], .agg #[.int .i32 x.1, .int .i64 (x.2.1 : Int), .bool x.2.2], undef, undef, undef], defers := [] })
    (fun s x a X Y ⟨Bx, h1, h2, h3⟩ t => ⟨Bx, h1, t.same Bx _ h2 (fun e => e) (.inr rfl), h3⟩) ?assign ?body ?done ?stop
  case assign =>
    intro l pre x W K hI hG hK
    have hs := hI.2.1
    have ht := Turn.alloc w.heap.size (fun _ => False) W (.cells #[.int .i32 x.1, .int .i64 (x.2.1 : Int), .bool x.2.2] 102)
    unfold encS
    gi_wp2
    exact hK _ _ ⟨W.heap.size, hs, World.alloc_heap_new W _, rfl⟩ (KeepsOthers.alloc _ _)
      ⟨(Below.refl _ W).alloc (by omega) _, Below.heap_alloc W _ _ (by omega)⟩ ⟨ht.below hI.1 (Nat.le_refl _) (Nat.le_refl _) (fun k e => e.elim), Nat.le_trans hs ht.size, ht.boxed hI.2.2.1 (fun e => e), hI.2.2.2⟩ hG
  case body =>
    rintro l pre x a1 W ⟨Bx, hBx, hb3, rfl⟩ ⟨h1, h2, h3, h4⟩ hG
    obtain ⟨x1, x2, g⟩ := x
    have cx : W.cell? ⟨Bx, 2, none⟩ = some (.bool g) := by simp [World.cell?, hb3]
    have cb := h3.cell
    have cf := h3.frozen
    have hall : (pre ++ [((x1, x2, g) : Stp)]).all (·.2.2) = g := by rw [List.all_append, h4]; simp
    cases g with
    | true =>
      gi_wp2
      exact ⟨KeepsOthers.refl _, ⟨Below.refl _ _, rfl⟩, h1, h2, h3, hall⟩
    | false =>
      gi_wp2
      exact ⟨KeepsOthers.setCell _ _ _, rfl, h1.setCell (p := ⟨w.heap.size, 0, none⟩) (Nat.le_refl _) _, h3.set _, hall⟩
  case done =>
    rintro D xs W hD rfl ⟨h1, h2, h3, h4⟩ hK
    have cb := h3.cell
    have cf := h3.frozen
    gi_wp2
    have hK' := (KeepsOthers.setCell W ⟨w.heap.size, 0, none⟩ (.bool true)).same D _ hK rfl
    refine ⟨by simp, .inl ⟨_, _, rfl, run_takeDeferred hK', ?_⟩⟩
    have hc5 := cell_kept (h3.set (.bool true)).cell (grownBy_putObj' _ D (.deferred none)) (fun r e => by cases e; exact ⟨_, hK', rfl⟩)
    refine ⟨.bool true, ?_, by rw [show allGood bs = true from h4], (h1.setCell (p := ⟨w.heap.size, 0, none⟩) (Nat.le_refl _) _).trans (belowK_b (w := w) (Nat.le_refl _) _ D _ _ (by omega) hK' rfl rfl)⟩
    simp [results, Tryz.f62, go_sem, hc5]
  case stop =>
    rintro D c pre W hD hpre ⟨rfl, h1, h3, h4⟩ hK
    have hg : allGood bs = false := by
      cases hg : allGood bs with
      | false => rfl
      | true =>
        have : pre.all (·.2.2) = true := List.all_eq_true.2 (fun x hx => List.all_eq_true.1 hg x (hpre.subset hx))
        rw [this] at h4
        cases h4
    gi_wp2
    refine ⟨by simp, .inl ⟨_, _, rfl, run_takeDeferred hK, ?_⟩⟩
    have hc5 := cell_kept h3.cell (grownBy_putObj' _ D (.deferred none)) (fun r e => by cases e; exact ⟨_, hK, rfl⟩)
    refine ⟨.bool false, ?_, by rw [hg], h1.trans (belowK_b (w := w) (Nat.le_refl _) _ D _ _ (by omega) hK rfl rfl)⟩
    simp [results, Tryz.f62, go_sem, hc5]

theorem utf_good (v : Value) (bs : List Int) (w : World) (hT : Tabs w) (hr : RdB w v bs) (hby : By bs) :
    Calls Tryz.prog 62 #[v] w fun e w' => e = .returned (.bool (allGood bs)) ∧ Below w.heap.size w w' := by
  have hr' := hr
  obtain ⟨A, c, rfl, -, -⟩ := hr
  exact callsIn_wide.1 (good_in 1 (Nat.le_refl _) A c bs w hr' hby hT)
end Go.Proofs.YtekpmpghbeeeoaaGreatDoor
