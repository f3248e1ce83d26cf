import Derived.Test.YtaccjifhgohfpaaDoorRunes
/- The contract of utf.Runes. -/
namespace Go.Proofs.YtaccjifhgohfpaaDoor
open Go.RowKit Go.Shelf Go.Proofs.YtaccjifhgohfpaaDoorW.PrintWords Go.Proofs.YtaccjifhgohfpaaDoorW.PrintMore

attribute [local go_sem] Oper.semAt_some

def OwnN (k : IntKind) (e : TypeId) (w : World) (base : Nat) (v : Value) (xs : List Int) : Prop := w.ownsRow base e 1 v xs.length (nums k xs)
def RunesP (bs : List Int) (w : World) (e : Ending) (w' : World) : Prop :=
  ∃ u v, e = .returned (.tuple #[u, v]) ∧ OwnN .i32 21 w' w.heap.size u (runes bs) ∧ OwnN .i64 3 w' w.heap.size v (places bs) ∧ Below w.heap.size w w'

def RunI (w : World) (pre : List Stp) (W : World) : Prop :=
  Below w.heap.size w W ∧ w.heap.size + 3 ≤ W.heap.size ∧
  ∃ u v, Boxed W w.heap.size 23 u ∧ Boxed W (w.heap.size + 1) 25 v ∧ OwnN .i32 21 W (w.heap.size + 3) u (pre.map (·.1)) ∧ OwnN .i64 3 W (w.heap.size + 3) v (pre.map fun s => (s.2.1 : Int))
theorem RunI.turn {w X Y : World} {pre : List Stp} {B : Nat} (h : RunI w pre X) (hB : w.heap.size ≤ B) (t : Turn B (fun _ => False) X Y) : RunI w pre Y := by
  obtain ⟨h1, h2, u, v, h3, h4, h5, h6⟩ := h
  exact ⟨t.below h1 (Nat.le_refl _) hB (fun k e => e.elim), Nat.le_trans h2 t.size, u, v, t.boxed h3 (fun e => e), t.boxed h4 (fun e => e), t.row h5 (fun k _ e => e), t.row h6 (fun k _ e => e)⟩

def RunS (s Bx : Nat) (x : Stp) (u v : Value) (L : Array Bool) (w : World) : Prop :=
  (L.getD 10 true = false → w.cell? ⟨s, 0, none⟩ = some u) ∧ (L.getD 11 true = false → w.cell? ⟨s + 1, 0, none⟩ = some v) ∧ w.cell? ⟨Bx, 0, none⟩ = some (.int .i32 x.1) ∧ w.cell? ⟨Bx, 1, none⟩ = some (.int .i64 (x.2.1 : Int))
theorem RunS.set {s Bx : Nat} {x : Stp} {u v : Value} (i : Nat) (h0 : i ≠ 10) (h1 : i ≠ 11) (L : Array Bool) (w : World) : RunS s Bx x u v L w ↔ RunS s Bx x u v (L.setIfInBounds i true) w := by
  unfold RunS
  rw [getD_set_ne true h0, getD_set_ne true h1]
theorem RR.runS {s Bx : Nat} {W0 W : World} {x : Stp} {ub vb u v : Value} {xs ys : List Int} (h : RR s Bx W0 x ub vb u v xs ys W) (L : Array Bool) : RunS s Bx x ub vb L W :=
  ⟨fun _ => h.b1.cell, fun _ => h.b2.cell, h.c0, h.c1⟩

set_option maxRecDepth 100000 in
set_option maxHeartbeats 4000000 in
theorem runes_in (n : Nat) (hn : 1 ≤ n) (A : Option Addr) (c : Nat) (bs : List Int) (w : World) (hr : RdB w (.slice A bs.length c) bs) (hby : By bs) (hT : Tabs w) (hlen : bs.length ≤ 1000000000000) :
    CallsIn Fence.wide n Tryd.prog 14 #[.slice A bs.length c] w (RunesP bs w) := by
  refine callsIn_of_wp_marks Tryd.func14 rfl trivial ?_ rfl
  simp only [Tryd.ntmps14, List.size_toArray, List.length_cons, List.length_nil, Nat.reduceAdd, Nat.reduceSub, Array.replicate_succ, Array.replicate_zero, List.push_toArray, List.append_toArray, List.nil_append, List.cons_append]
  gi_wp2_with fail
  refine ⟨trivial, (steps_in (n - 1) A bs.length c _).mono ?_⟩
  rintro e w' ⟨rfl, rfl⟩
  have b1 := Boxed.new w 23 (.slice none 0 0)
  have b2 := Boxed.new (w.alloc (.cells #[.slice none 0 0] 23)) 25 (.slice none 0 0)
  have b3 := Boxed.new ((w.alloc (.cells #[.slice none 0 0] 23)).alloc (.cells #[.slice none 0 0] 25)) 22 (.slice A bs.length c)
  simp only [World.size_alloc] at b2 b3
  have hB0 : Below w.heap.size w (((w.alloc (.cells #[.slice none 0 0] 23)).alloc (.cells #[.slice none 0 0] 25)).alloc (.cells #[.slice A bs.length c] 22)) := (((Below.refl _ w).alloc (Nat.le_refl _) _).alloc (by simp) _).alloc (by simp; omega) _
  have hI0 : RunI w [] (((w.alloc (.cells #[.slice none 0 0] 23)).alloc (.cells #[.slice none 0 0] 25)).alloc (.cells #[.slice A bs.length c] 22)) :=
    ⟨hB0, by simp, _, _, (b1.alloc _).alloc _, b2.alloc _, World.ownsRow_nil _ _ _ _, World.ownsRow_nil _ _ _ _⟩
  have hsz : (((w.alloc (.cells #[.slice none 0 0] 23)).alloc (.cells #[.slice none 0 0] 25)).alloc (.cells #[.slice A bs.length c] 22)).heap.size = w.heap.size + 3 := by simp
  generalize (((w.alloc (.cells #[.slice none 0 0] 23)).alloc (.cells #[.slice none 0 0] 25)).alloc (.cells #[.slice A bs.length c] 22)) = W0 at b3 hB0 hI0 hsz ⊢
  clear b1 b2
  simp only [World.size_alloc]
  gi_wp2_with fail
  refine wpIn_rangeA (gf := 52) (lb := #[.pointer (some ⟨w.heap.size + 1 + 1, 0, none⟩)]) rfl (enters_of Tryd.func52 (by kernel_rfl) rfl)
    (steps_seq (n - 1) (w.heap.size + 1 + 1) w.heap.size w W0 A c bs rfl hr hby hT hB0 b3)
    (fun h k => ⟨h.1.trans k.1, k.2.trans h.2⟩)
    (fun W l o o' hl ho hc => ⟨(Below.refl _ W).grown (grownBy_putObj' W l o') (by have := (Array.getElem?_eq_some_iff.1 ho).1; omega) (fun k e => by cases e; omega), World.putObj_heap_other (by omega)⟩)
    (Below.refl _ _) (fun _ => rfl) (fun k e => e.elim) (fun s x X Y h _ => h)
    (RunI w) (fun _ _ _ => False) (fun s X Y h t => h.turn (by omega) t) (fun _ _ _ _ h _ => h) hI0
    (fun pre x a1 W => ∃ Bx, w.heap.size + 3 ≤ Bx ∧ W.heap[Bx]? = some (.cells #[.int .i32 x.1, .int .i64 (x.2.1 : Int), .bool x.2.2] 57 (0, 0)) ∧
      a1 = { tmps := #[.slice A bs.length c, undef, .slice none 0 0, .slice none 0 0, .pointer (some ⟨w.heap.size, 0, none⟩), .pointer (some ⟨w.heap.size + 1, 0, none⟩), .pointer (some ⟨Bx, 0, none⟩), .slice A bs.length c, .func (.func 52) #[] #[.pointer (some ⟨w.heap.size + 1 + 1, 0, none⟩)], .agg #[.int .i32 x.1, .int .i64 (x.2.1 : Int), .bool x.2.2], undef, undef, undef, undef, undef, undef, undef, undef, undef, undef, undef, undef], defers := [] })
    (fun s x a X Y ⟨Bx, h1, h2, h3⟩ t => ⟨Bx, h1, t.same Bx _ h2 (fun e => e) (.inr rfl), h3⟩) ?assign ?body ?done ?stop
  case assign =>
    intro l pre x W K hI hG hK
    unfold encS
    gi_wp2
    exact hK _ _ ⟨W.heap.size, hI.2.1, World.alloc_heap_new W _, rfl⟩ (KeepsOthers.alloc _ _)
      ⟨(Below.refl _ W).alloc (by have := hI.2.1; omega) _, Below.heap_alloc W _ _ (by have := hI.2.1; omega)⟩ (hI.turn (Nat.le_refl _) (Turn.alloc _ _ _ _)) hG
  case body =>
    rintro l pre x a1 W ⟨Bx, hBx, hb3, rfl⟩ ⟨h1, h2, u, v, h3, h4, h5, h6⟩ hG
    have hpl : pre.length + 1 ≤ bs.length := by
      have := hG.length_le
      have h' := steps_length_le 0 bs
      rw [List.length_append] at this
      simp at this
      omega
    have h0 : RR w.heap.size Bx W x u v u v (pre.map (·.1)) (pre.map fun s => (s.2.1 : Int)) W.drew := RR.drew ⟨KR.refl h2, h3, h4, hb3, h5, h6⟩
    have hS := fun L => h0.runS L
    have fin : ∀ (ub vb : Value) (W' : World), RR w.heap.size Bx W x ub vb ub vb (pre.map (·.1) ++ [x.1]) ((pre.map fun s => (s.2.1 : Int)) ++ [(x.2.1 : Int)]) W' →
        KeepsOthers W W' ∧ SKp w.heap.size (w.heap.size + 1 + 1) W W' ∧ RunI w (pre ++ [x]) W' := fun ub vb W' h =>
      ⟨h.kr.keeps, ⟨h.kr.below, h.kr.box⟩, h1.trans h.kr.below, h.size, ub, vb, h.b1, h.b2, by
        rw [List.map_append]; exact h.o1, by rw [List.map_append]; exact h.o2⟩
    clear hb3 h1 h2 h3 h4 h5 h6
    gi_wp2_with fail
    refine wpIn_round_late (RunS w.heap.size Bx x u v) (by kernel_rfl) (fun ⟨_, _, h⟩ => h) (by kernel_rfl) ?_
    obtain ⟨Wd, hWd⟩ : ∃ Wd, W.drew = Wd := ⟨_, rfl⟩
    rw [hWd] at h0 hS ⊢
    clear hWd
    refine late_take (i := 0) (v := ?_) rfl (by kernel_rfl) (by kernel_rfl) (by kernel_rfl) (by kernel_rfl) (fun _ _ _ h => h) (by rfl) (RunS.set 0 (by decide) (by decide)) (hS _) ?y0 ?_
    case y0 => (intro L W' hL hSw; obtain ⟨q1, q2, q3, q4⟩ := hSw; have q1 := q1 (hL 10 (by kernel_rfl)); go_simp; try with_reducible rfl)
    try simp only [Act.put, List.setIfInBounds_toArray, List.set_cons_zero, List.set_cons_succ]
    refine late_take (i := 1) (v := ?_) rfl (by kernel_rfl) (by kernel_rfl) (by kernel_rfl) (by kernel_rfl) (fun _ _ _ h => h) (by rfl) (RunS.set 1 (by decide) (by decide)) (hS _) ?y1 ?_
    case y1 => (intro L W' hL hSw; obtain ⟨q1, q2, q3, q4⟩ := hSw; go_simp; try with_reducible rfl)
    try simp only [Act.put, List.setIfInBounds_toArray, List.set_cons_zero, List.set_cons_succ]
    refine late_take (i := 2) (v := ?_) rfl (by kernel_rfl) (by kernel_rfl) (by kernel_rfl) (by kernel_rfl) (fun _ _ _ h => h) (by rfl) (RunS.set 2 (by decide) (by decide)) (hS _) ?y2 ?_
    case y2 => (intro L W' hL hSw; obtain ⟨q1, q2, q3, q4⟩ := hSw; go_simp; try with_reducible rfl)
    try simp only [Act.put, List.setIfInBounds_toArray, List.set_cons_zero, List.set_cons_succ]
    refine late_take (i := 5) (v := ?_) rfl (by kernel_rfl) (by kernel_rfl) (by kernel_rfl) (by kernel_rfl) (fun _ _ _ h => h) (by rfl) (RunS.set 5 (by decide) (by decide)) (hS _) ?y5 ?_
    case y5 => (intro L W' hL hSw; obtain ⟨q1, q2, q3, q4⟩ := hSw; have q2 := q2 (hL 11 (by kernel_rfl)); go_simp; try with_reducible rfl)
    try simp only [Act.put, List.setIfInBounds_toArray, List.set_cons_zero, List.set_cons_succ]
    refine late_take (i := 6) (v := ?_) rfl (by kernel_rfl) (by kernel_rfl) (by kernel_rfl) (by kernel_rfl) (fun _ _ _ h => h) (by rfl) (RunS.set 6 (by decide) (by decide)) (hS _) ?y6 ?_
    case y6 => (intro L W' hL hSw; obtain ⟨q1, q2, q3, q4⟩ := hSw; go_simp; try with_reducible rfl)
    try simp only [Act.put, List.setIfInBounds_toArray, List.set_cons_zero, List.set_cons_succ]
    refine late_take (i := 7) (v := ?_) rfl (by kernel_rfl) (by kernel_rfl) (by kernel_rfl) (by kernel_rfl) (fun _ _ _ h => h) (by rfl) (RunS.set 7 (by decide) (by decide)) (hS _) ?y7 ?_
    case y7 => (intro L W' hL hSw; obtain ⟨q1, q2, q3, q4⟩ := hSw; go_simp; try with_reducible rfl)
    try simp only [Act.put, List.setIfInBounds_toArray, List.set_cons_zero, List.set_cons_succ]
    refine late_two (i := 3) (k := 8) (by kernel_rfl) rfl rfl (by rfl) (by rfl) (fun K hK => ?_) (fun K hK => ?_)
    · go_simp
      refine hK.out _ _ ?_ ?_
      · exact RR.runS (h0.alloc _) _
      clear hK K
      try simp only [Act.put, List.setIfInBounds_toArray, List.set_cons_zero, List.set_cons_succ]
      have t3 := TmpAt.new (W := Wd) (u := u) (v := v) (.int .i32 x.1) 21 (fun k e => (h0.o1.lt k e).2) (fun k e => (h0.o2.lt k e).2)
      have r1 := h0.alloc (.cells #[.int .i32 x.1] 21)
      obtain ⟨w1, hw1⟩ : ∃ w', Wd.alloc (.cells #[.int .i32 x.1] 21) = w' := ⟨_, rfl⟩
      obtain ⟨g3, hg3⟩ : ∃ g, Wd.heap.size = g := ⟨_, rfl⟩
      rw [hw1] at r1 t3 ⊢
      rw [hg3] at t3 ⊢
      clear hw1 hg3
      refine late_two (i := 4) (k := 8) (by kernel_rfl) rfl rfl (by rfl) (by rfl) (fun K hK => ?_) (fun K hK => ?_)
      · refine wp_append_one (w.heap.size + 3) (.tmp 10) (.tmp 13) _ 21 .i32 4 rfl Tryd.underlying23 info32 u (pre.map (·.1)) g3 x.1 (by rfl) (by rfl) r1.o1 t3.1 r1.size (by simp; omega) (by simp; omega) ?_
        intro u' w2 ho2 hg2
        have r2 := r1.app32 ho2 hg2
        obtain ⟨ga2, ca2, rfl⟩ := ownsRow_succ (k := pre.length) (by simpa using ho2)
        refine hK.out _ _ ?_ ?_
        · exact RR.runS r2 _
        clear hK K ho2 hg2
        try simp only [Act.put, List.setIfInBounds_toArray, List.set_cons_zero, List.set_cons_succ]
        refine late_one (i := 8) (by kernel_rfl) rfl (by rfl) (fun K hK => ?_)
        go_simp
        refine hK.out _ _ ?_ ?_
        · exact RR.runS (r2.alloc _) _
        clear hK K
        try simp only [Act.put, List.setIfInBounds_toArray, List.set_cons_zero, List.set_cons_succ]
        have t8 := TmpAt.new (W := w2) (u := (.slice (some ⟨ga2, 0, none⟩) (pre.length + 1) ca2)) (v := v) (.int .i64 (x.2.1 : Int)) 3 (fun k e => (r2.o1.lt k e).2) (fun k e => (r2.o2.lt k e).2)
        have r3 := r2.alloc (.cells #[.int .i64 (x.2.1 : Int)] 3)
        obtain ⟨w3, hw3⟩ : ∃ w', w2.alloc (.cells #[.int .i64 (x.2.1 : Int)] 3) = w' := ⟨_, rfl⟩
        obtain ⟨g8, hg8⟩ : ∃ g, w2.heap.size = g := ⟨_, rfl⟩
        rw [hw3] at r3 t8 ⊢
        rw [hg8] at t8 ⊢
        clear hw3 hg8
        refine late_one (i := 9) (by kernel_rfl) rfl (by rfl) (fun K hK => ?_)
        refine wp_append_one (w.heap.size + 3) (.tmp 15) (.tmp 18) _ 3 .i64 8 rfl Tryd.underlying25 info64 v (pre.map fun s => (s.2.1 : Int)) g8 (x.2.1 : Int) (by rfl) (by rfl) r3.o2 t8.1 r3.size (by simp; omega) (by simp; omega) ?_
        intro v' w4 ho4 hg4
        have r4 := r3.app64 ho4 hg4
        obtain ⟨ga4, ca4, rfl⟩ := ownsRow_succ (k := pre.length) (by simpa using ho4)
        refine hK.out _ _ ?_ ?_
        · exact RR.runS r4 _
        clear hK K ho4 hg4
        try simp only [Act.put, List.setIfInBounds_toArray, List.set_cons_zero, List.set_cons_succ]
        refine late_one (i := 10) (by kernel_rfl) rfl (by rfl) (fun K hK => ?_)
        have cc := r4.b1.cell
        have cf := r4.b1.frozen
        have r5 := r4.set32 hBx (.slice (some ⟨ga2, 0, none⟩) (pre.length + 1) ca2)
        go_simp
        refine hK.out _ _ ?_ ?_
        · exact ⟨fun h => absurd h (by decide), fun _ => r5.b2.cell, r5.c0, r5.c1⟩
        clear hK K cc cf
        try simp only [Act.put, List.setIfInBounds_toArray, List.set_cons_zero, List.set_cons_succ]
        refine late_one (i := 11) (by kernel_rfl) rfl (by rfl) (fun K hK => ?_)
        have cc := r5.b2.cell
        have cf := r5.b2.frozen
        have r6 := r5.set64 hBx (.slice (some ⟨ga4, 0, none⟩) (pre.length + 1) ca4)
        go_simp
        refine hK.out _ _ ?_ ?_
        · exact ⟨fun h => absurd h (by decide), fun h => absurd h (by decide), r6.c0, r6.c1⟩
        clear hK K cc cf
        try simp only [Act.put, List.setIfInBounds_toArray, List.set_cons_zero, List.set_cons_succ]
        refine late_done (by kernel_rfl) ?_ _
        exact fin _ _ _ r6
      · go_simp
        refine hK.out _ _ ?_ ?_
        · exact RR.runS (r1.alloc _) _
        clear hK K
        try simp only [Act.put, List.setIfInBounds_toArray, List.set_cons_zero, List.set_cons_succ]
        have t8 := TmpAt.new (W := w1) (u := u) (v := v) (.int .i64 (x.2.1 : Int)) 3 (fun k e => (r1.o1.lt k e).2) (fun k e => (r1.o2.lt k e).2)
        have t3 := t3.alloc (.cells #[.int .i64 (x.2.1 : Int)] 3)
        have r2 := r1.alloc (.cells #[.int .i64 (x.2.1 : Int)] 3)
        obtain ⟨w2, hw2⟩ : ∃ w', w1.alloc (.cells #[.int .i64 (x.2.1 : Int)] 3) = w' := ⟨_, rfl⟩
        obtain ⟨g8, hg8⟩ : ∃ g, w1.heap.size = g := ⟨_, rfl⟩
        rw [hw2] at r2 t8 t3 ⊢
        rw [hg8] at t8 ⊢
        clear hw2 hg8
        refine late_one (i := 4) (by kernel_rfl) rfl (by rfl) (fun K hK => ?_)
        refine wp_append_one (w.heap.size + 3) (.tmp 10) (.tmp 13) _ 21 .i32 4 rfl Tryd.underlying23 info32 u (pre.map (·.1)) g3 x.1 (by rfl) (by rfl) r2.o1 t3.1 r2.size (by simp; omega) (by simp; omega) ?_
        intro u' w3 ho3 hg3
        have r3 := r2.app32 ho3 hg3
        have t8 := And.intro ((World.cell?_of_block (w := w2) (hg3.block g8 t8.2.1 t8.2.2.1)).trans t8.1) trivial
        obtain ⟨ga3, ca3, rfl⟩ := ownsRow_succ (k := pre.length) (by simpa using ho3)
        refine hK.out _ _ ?_ ?_
        · exact RR.runS r3 _
        clear hK K ho3 hg3
        try simp only [Act.put, List.setIfInBounds_toArray, List.set_cons_zero, List.set_cons_succ]
        refine late_one (i := 9) (by kernel_rfl) rfl (by rfl) (fun K hK => ?_)
        refine wp_append_one (w.heap.size + 3) (.tmp 15) (.tmp 18) _ 3 .i64 8 rfl Tryd.underlying25 info64 v (pre.map fun s => (s.2.1 : Int)) g8 (x.2.1 : Int) (by rfl) (by rfl) r3.o2 t8.1 r3.size (by simp; omega) (by simp; omega) ?_
        intro v' w4 ho4 hg4
        have r4 := r3.app64 ho4 hg4
        obtain ⟨ga4, ca4, rfl⟩ := ownsRow_succ (k := pre.length) (by simpa using ho4)
        refine hK.out _ _ ?_ ?_
        · exact RR.runS r4 _
        clear hK K ho4 hg4
        try simp only [Act.put, List.setIfInBounds_toArray, List.set_cons_zero, List.set_cons_succ]
        refine late_one (i := 10) (by kernel_rfl) rfl (by rfl) (fun K hK => ?_)
        have cc := r4.b1.cell
        have cf := r4.b1.frozen
        have r5 := r4.set32 hBx (.slice (some ⟨ga3, 0, none⟩) (pre.length + 1) ca3)
        go_simp
        refine hK.out _ _ ?_ ?_
        · exact ⟨fun h => absurd h (by decide), fun _ => r5.b2.cell, r5.c0, r5.c1⟩
        clear hK K cc cf
        try simp only [Act.put, List.setIfInBounds_toArray, List.set_cons_zero, List.set_cons_succ]
        refine late_one (i := 11) (by kernel_rfl) rfl (by rfl) (fun K hK => ?_)
        have cc := r5.b2.cell
        have cf := r5.b2.frozen
        have r6 := r5.set64 hBx (.slice (some ⟨ga4, 0, none⟩) (pre.length + 1) ca4)
        go_simp
        refine hK.out _ _ ?_ ?_
        · exact ⟨fun h => absurd h (by decide), fun h => absurd h (by decide), r6.c0, r6.c1⟩
        clear hK K cc cf
        try simp only [Act.put, List.setIfInBounds_toArray, List.set_cons_zero, List.set_cons_succ]
        refine late_done (by kernel_rfl) ?_ _
        exact fin _ _ _ r6
    · go_simp
      refine hK.out _ _ ?_ ?_
      · exact RR.runS (h0.alloc _) _
      clear hK K
      try simp only [Act.put, List.setIfInBounds_toArray, List.set_cons_zero, List.set_cons_succ]
      have t8 := TmpAt.new (W := Wd) (u := u) (v := v) (.int .i64 (x.2.1 : Int)) 3 (fun k e => (h0.o1.lt k e).2) (fun k e => (h0.o2.lt k e).2)
      have r1 := h0.alloc (.cells #[.int .i64 (x.2.1 : Int)] 3)
      obtain ⟨w1, hw1⟩ : ∃ w', Wd.alloc (.cells #[.int .i64 (x.2.1 : Int)] 3) = w' := ⟨_, rfl⟩
      obtain ⟨g8, hg8⟩ : ∃ g, Wd.heap.size = g := ⟨_, rfl⟩
      rw [hw1] at r1 t8 ⊢
      rw [hg8] at t8 ⊢
      clear hw1 hg8
      refine late_one (i := 3) (by kernel_rfl) rfl (by rfl) (fun K hK => ?_)
      go_simp
      refine hK.out _ _ ?_ ?_
      · exact RR.runS (r1.alloc _) _
      clear hK K
      try simp only [Act.put, List.setIfInBounds_toArray, List.set_cons_zero, List.set_cons_succ]
      have t3 := TmpAt.new (W := w1) (u := u) (v := v) (.int .i32 x.1) 21 (fun k e => (r1.o1.lt k e).2) (fun k e => (r1.o2.lt k e).2)
      have t8 := t8.alloc (.cells #[.int .i32 x.1] 21)
      have r2 := r1.alloc (.cells #[.int .i32 x.1] 21)
      obtain ⟨w2, hw2⟩ : ∃ w', w1.alloc (.cells #[.int .i32 x.1] 21) = w' := ⟨_, rfl⟩
      obtain ⟨g3, hg3⟩ : ∃ g, w1.heap.size = g := ⟨_, rfl⟩
      rw [hw2] at r2 t3 t8 ⊢
      rw [hg3] at t3 ⊢
      clear hw2 hg3
      refine late_one (i := 4) (by kernel_rfl) rfl (by rfl) (fun K hK => ?_)
      refine wp_append_one (w.heap.size + 3) (.tmp 10) (.tmp 13) _ 21 .i32 4 rfl Tryd.underlying23 info32 u (pre.map (·.1)) g3 x.1 (by rfl) (by rfl) r2.o1 t3.1 r2.size (by simp; omega) (by simp; omega) ?_
      intro u' w3 ho3 hg3
      have r3 := r2.app32 ho3 hg3
      have t8 := And.intro ((World.cell?_of_block (w := w2) (hg3.block g8 t8.2.1 t8.2.2.1)).trans t8.1) trivial
      obtain ⟨ga3, ca3, rfl⟩ := ownsRow_succ (k := pre.length) (by simpa using ho3)
      refine hK.out _ _ ?_ ?_
      · exact RR.runS r3 _
      clear hK K ho3 hg3
      try simp only [Act.put, List.setIfInBounds_toArray, List.set_cons_zero, List.set_cons_succ]
      refine late_one (i := 9) (by kernel_rfl) rfl (by rfl) (fun K hK => ?_)
      refine wp_append_one (w.heap.size + 3) (.tmp 15) (.tmp 18) _ 3 .i64 8 rfl Tryd.underlying25 info64 v (pre.map fun s => (s.2.1 : Int)) g8 (x.2.1 : Int) (by rfl) (by rfl) r3.o2 t8.1 r3.size (by simp; omega) (by simp; omega) ?_
      intro v' w4 ho4 hg4
      have r4 := r3.app64 ho4 hg4
      obtain ⟨ga4, ca4, rfl⟩ := ownsRow_succ (k := pre.length) (by simpa using ho4)
      refine hK.out _ _ ?_ ?_
      · exact RR.runS r4 _
      clear hK K ho4 hg4
      try simp only [Act.put, List.setIfInBounds_toArray, List.set_cons_zero, List.set_cons_succ]
      refine late_one (i := 10) (by kernel_rfl) rfl (by rfl) (fun K hK => ?_)
      have cc := r4.b1.cell
      have cf := r4.b1.frozen
      have r5 := r4.set32 hBx (.slice (some ⟨ga3, 0, none⟩) (pre.length + 1) ca3)
      go_simp
      refine hK.out _ _ ?_ ?_
      · exact ⟨fun h => absurd h (by decide), fun _ => r5.b2.cell, r5.c0, r5.c1⟩
      clear hK K cc cf
      try simp only [Act.put, List.setIfInBounds_toArray, List.set_cons_zero, List.set_cons_succ]
      refine late_one (i := 11) (by kernel_rfl) rfl (by rfl) (fun K hK => ?_)
      have cc := r5.b2.cell
      have cf := r5.b2.frozen
      have r6 := r5.set64 hBx (.slice (some ⟨ga4, 0, none⟩) (pre.length + 1) ca4)
      go_simp
      refine hK.out _ _ ?_ ?_
      · exact ⟨fun h => absurd h (by decide), fun h => absurd h (by decide), r6.c0, r6.c1⟩
      clear hK K cc cf
      try simp only [Act.put, List.setIfInBounds_toArray, List.set_cons_zero, List.set_cons_succ]
      refine late_done (by kernel_rfl) ?_ _
      exact fin _ _ _ r6
  case done =>
    rintro D xs W hD rfl ⟨h1, h2, u, v, h3, h4, h5, h6⟩ hK
    have c3 := h3.cell
    have c4 := h4.cell
    gi_wp2
    gi_big_quiet_th (fail)
    have hK' : (W.drewN nq).heap[D]? = some (.deferred (some [])) := hK
    gi_wp2
    refine ⟨by simp, .inl ⟨_, _, rfl, run_takeDeferred hK', ?_⟩⟩
    have hne : ∀ {b : Nat} {e : TypeId} {s : Nat} {v : Value} {m : Nat} {x : List Value}, W.ownsRow b e s v m x → ((W.drewN nq).putObj D (.deferred none)).ownsRow b e s v m x := fun {_ _ _ _ _ _} h =>
      row_same h (fun k _ hky => World.putObj_heap_other (w := W.drewN nq) (fun e => by rw [e] at hky; obtain ⟨cs, hcs⟩ := row_cells h hky hK; cases hcs))
    exact ⟨_, results_tmp2 rfl _ _ _, u, v, rfl, own_less (hne h5) (by omega), own_less (hne h6) (by omega), h1.trans (pw_below_drewN (Below.refl _ _) nq |>.trans (belowK_b (w := w) (Nat.le_refl _) (W.drewN nq) D _ _ (by omega) hK' rfl rfl))⟩
  case stop =>
    rintro D c pre W _ _ h _
    exact h.elim

theorem utf_runes (v : Value) (bs : List Int) (w : World) (hT : Tabs w) (hr : RdB w v bs) (hby : By bs) (hlen : bs.length ≤ 1000000000000) :
    Calls Tryd.prog 14 #[v] w (RunesP bs w) := by
  have hr' := hr
  obtain ⟨A, c, rfl, -, -⟩ := hr
  exact callsIn_wide.1 (runes_in 1 (Nat.le_refl _) A c bs w hr' hby hT hlen)
end Go.Proofs.YtaccjifhgohfpaaDoor
