import Derived.Test.YtekpmpghbeeeoaaGreatDoorUtf
import Derived.Test.YtekpmpghbeeeoaaGreatDoorRowSame
import Derived.Sort.BigQuietIn
/- utf.Runes: the code points of bytes, and where they begin. -/
namespace Go.Proofs.YtekpmpghbeeeoaaGreatDoor
open Go.RowKit Go.Shelf Go.Proofs.YtekpmpghbeeeoaaGreatDoorW.PrintWords Go.Proofs.YtekpmpghbeeeoaaGreatDoorW.PrintMore

attribute [local go_sem] Oper.semAt_some

/-- Two rows of different elements lie in different blocks. -/
theorem rows_apart {W : World} {b1 b2 : Nat} {e1 e2 : TypeId} {s1 s2 : Nat} {v1 v2 : Value} {n1 n2 : Nat} {x1 x2 : List Value} (h1 : W.ownsRow b1 e1 s1 v1 n1 x1) (h2 : W.ownsRow b2 e2 s2 v2 n2 x2) (hne : e1 ≠ e2) : v1.ownBlock = none ∨ v1.ownBlock ≠ v2.ownBlock := by
  rcases h1.2 with ⟨rfl, _⟩ | ⟨g, cap, cur, rfl, _, hg, _⟩
  · exact .inl rfl
  · refine .inr fun e => ?_
    rcases h2.2 with ⟨rfl, _⟩ | ⟨g2, cap2, cur2, rfl, _, hg2, _⟩
    · cases e
    · obtain rfl : g = g2 := by simpa [Value.ownBlock] using e
      rw [hg] at hg2
      cases hg2
      exact hne rfl
theorem info32 : (Tryz.prog.info? 21).map (fun i => (i.zero, i.size, i.bytes)) = some (some (.int .i32 0), 1, 4) := by kernel_rfl
theorem info64 : (Tryz.prog.info? 3).map (fun i => (i.zero, i.size, i.bytes)) = some (some (.int .i64 0), 1, 8) := by kernel_rfl

/-- What a round of Runes' keeps of the world W0 that it began in. -/
structure KR (s : Nat) (W0 W : World) : Prop where
  os : W.os = W0.os
  tape : W.tape = W0.tape
  output : W.output = W0.output
  size : W0.heap.size ≤ W.heap.size
  block : ∀ k, k < s → W.heap[k]? = W0.heap[k]?
  other : ∀ (k : Nat) (o : Obj), W0.heap[k]? = some o → o.isCells = false → W.heap[k]? = some o
  box : W.heap[s + 2]? = W0.heap[s + 2]?
  big : s + 3 ≤ W0.heap.size
theorem KR.refl {s : Nat} {W : World} (h : s + 3 ≤ W.heap.size) : KR s W W := ⟨rfl, rfl, rfl, Nat.le_refl _, fun _ _ => rfl, fun _ _ h _ => h, rfl, h⟩
theorem KR.step {s : Nat} {W0 W Y : World} {row : Option Nat} (h : KR s W0 W) (hg : W.grownBy Y row) (hr : ∀ k, row = some k → s ≤ k ∧ k ≠ s + 2 ∧ ∃ o : Obj, W.heap[k]? = some o ∧ o.isCells = true) : KR s W0 Y := by
  have h1 := h.size
  have h2 := h.big
  refine ⟨hg.os.trans h.os, hg.tape.trans h.tape, hg.output.trans h.output, Nat.le_trans h1 hg.size, fun k hk => (hg.block k (by omega) (fun e => by have := (hr k e.symm).1; omega)).trans (h.block k hk), fun k o ho hc => ?_, (hg.block (s + 2) (by omega) (fun e => (hr _ e.symm).2.1 rfl)).trans h.box, h2⟩
  have h3 := h.other k o ho hc
  refine (hg.block k (Array.getElem?_eq_some_iff.1 h3).1 (fun e => ?_)).trans h3
  obtain ⟨-, -, o', ho', hc'⟩ := hr k e.symm
  rw [h3] at ho'
  cases ho'
  rw [hc] at hc'
  cases hc'
theorem KR.keeps {s : Nat} {W0 W : World} (h : KR s W0 W) : KeepsOthers W0 W := ⟨h.size, h.other⟩
theorem KR.below {s : Nat} {W0 W : World} (h : KR s W0 W) : Below s W0 W := ⟨h.os, h.tape, h.output, h.size, h.block⟩
theorem KR.drew {s : Nat} {W0 W : World} (h : KR s W0 W) : KR s W0 W.drew := ⟨h.os, h.tape, h.output, h.size, h.block, h.other, h.box, h.big⟩

/-- In the midst of a round: the boxes hold ub, vb; the rows u, v are owned; the loop's variable lies in Bx. -/
structure RR (s Bx : Nat) (W0 : World) (x : Stp) (ub vb u v : Value) (xs ys : List Int) (W : World) : Prop where
  kr : KR s W0 W
  b1 : Boxed W s 42 ub
  b2 : Boxed W (s + 1) 71 vb
  b3 : W.heap[Bx]? = some (.cells #[.int .i32 x.1, .int .i64 (x.2.1 : Int), .bool x.2.2] 102 (0, 0))
  o1 : W.ownsRow (s + 3) 21 1 u xs.length (nums .i32 xs)
  o2 : W.ownsRow (s + 3) 3 1 v ys.length (nums .i64 ys)

section
variable {s Bx : Nat} {W0 W w1 : World} {x : Stp} {ub vb u v : Value} {xs ys : List Int}
theorem RR.size (h : RR s Bx W0 x ub vb u v xs ys W) : s + 3 ≤ W.heap.size := Nat.le_trans h.kr.big h.kr.size
theorem RR.b3lt (h : RR s Bx W0 x ub vb u v xs ys W) : Bx < W.heap.size := (Array.getElem?_eq_some_iff.1 h.b3).1
theorem RR.alloc (h : RR s Bx W0 x ub vb u v xs ys W) (o : Obj) : RR s Bx W0 x ub vb u v xs ys (W.alloc o) :=
  ⟨h.kr.step (World.grownBy_alloc W o none) (fun k e => by cases e), h.b1.alloc o, h.b2.alloc o, (Below.heap_alloc W o Bx h.b3lt).trans h.b3, h.o1.alloc o, h.o2.alloc o⟩
theorem RR.app32 (h : RR s Bx W0 x ub vb u v xs ys W) {u' : Value} {xs' : List Int} (ho : w1.ownsRow (s + 3) 21 1 u' xs'.length (nums .i32 xs')) (hg : W.grownBy w1 u.ownBlock) : RR s Bx W0 x ub vb u' v xs' ys w1 := by
  have hsz := h.size
  refine ⟨h.kr.step hg (fun k e => ?_), h.b1.kept hg (row_ne h.o1 (by omega)), h.b2.kept hg (row_ne h.o1 (by omega)), (hg.block Bx h.b3lt (fun e => ?_)).trans h.b3, ho, ?_⟩
  · have hk := h.o1.lt k e
    obtain ⟨o, hko⟩ : ∃ o, W.heap[k]? = some o := ⟨_, Array.getElem?_eq_getElem hk.2⟩
    obtain ⟨cs, rfl⟩ := row_cells h.o1 e.symm hko
    exact ⟨by omega, by omega, _, hko, rfl⟩
  · obtain ⟨cs, hcs⟩ := row_cells h.o1 e h.b3
    injection hcs with _ ht _
    exact absurd ht (by decide)
  · refine row_same h.o2 (fun k hk hkv => hg.block k hk (fun e => ?_))
    rcases rows_apart h.o2 h.o1 (by decide) with h' | h'
    · rw [h'] at hkv; cases hkv
    · exact h' (hkv.symm.trans e)
theorem RR.app64 (h : RR s Bx W0 x ub vb u v xs ys W) {v' : Value} {ys' : List Int} (ho : w1.ownsRow (s + 3) 3 1 v' ys'.length (nums .i64 ys')) (hg : W.grownBy w1 v.ownBlock) : RR s Bx W0 x ub vb u v' xs ys' w1 := by
  have hsz := h.size
  refine ⟨h.kr.step hg (fun k e => ?_), h.b1.kept hg (row_ne h.o2 (by omega)), h.b2.kept hg (row_ne h.o2 (by omega)), (hg.block Bx h.b3lt (fun e => ?_)).trans h.b3, ?_, ho⟩
  · have hk := h.o2.lt k e
    obtain ⟨o, hko⟩ : ∃ o, W.heap[k]? = some o := ⟨_, Array.getElem?_eq_getElem hk.2⟩
    obtain ⟨cs, rfl⟩ := row_cells h.o2 e.symm hko
    exact ⟨by omega, by omega, _, hko, rfl⟩
  · obtain ⟨cs, hcs⟩ := row_cells h.o2 e h.b3
    injection hcs with _ ht _
    exact absurd ht (by decide)
  · refine row_same h.o1 (fun k hk hkv => hg.block k hk (fun e => ?_))
    rcases rows_apart h.o1 h.o2 (by decide) with h' | h'
    · rw [h'] at hkv; cases hkv
    · exact h' (hkv.symm.trans e)
theorem RR.set32 (h : RR s Bx W0 x ub vb u v xs ys W) (hB : s + 3 ≤ Bx) (ub' : Value) : RR s Bx W0 x ub' vb u v xs ys (W.setCell ⟨s, 0, none⟩ ub') := by
  have hg := grownBy_setCell' W s ub'
  refine ⟨h.kr.step hg (fun k e => ?_), h.b1.set ub', h.b2.kept hg (by simp), (hg.block Bx h.b3lt (by simp; omega)).trans h.b3, row_same h.o1 (fun k hk hkv => hg.block k hk (fun e => ?_)), row_same h.o2 (fun k hk hkv => hg.block k hk (fun e => ?_))⟩
  · obtain rfl : s = k := by simpa using e
    exact ⟨Nat.le_refl _, by omega, _, h.b1, rfl⟩
  · have := row_ne h.o1 (k := s) (by omega)
    exact this (e.symm.trans hkv)
  · have := row_ne h.o2 (k := s) (by omega)
    exact this (e.symm.trans hkv)
theorem RR.set64 (h : RR s Bx W0 x ub vb u v xs ys W) (hB : s + 3 ≤ Bx) (vb' : Value) : RR s Bx W0 x ub vb' u v xs ys (W.setCell ⟨s + 1, 0, none⟩ vb') := by
  have hg := grownBy_setCell' W (s + 1) vb'
  refine ⟨h.kr.step hg (fun k e => ?_), h.b1.kept hg (by simp), h.b2.set vb', (hg.block Bx h.b3lt (by simp; omega)).trans h.b3, row_same h.o1 (fun k hk hkv => hg.block k hk (fun e => ?_)), row_same h.o2 (fun k hk hkv => hg.block k hk (fun e => ?_))⟩
  · obtain rfl : s + 1 = k := by simpa using e
    exact ⟨by omega, by omega, _, h.b2, rfl⟩
  · have := row_ne h.o1 (k := s + 1) (by omega)
    exact this (e.symm.trans hkv)
  · have := row_ne h.o2 (k := s + 1) (by omega)
    exact this (e.symm.trans hkv)
theorem RR.c0 (h : RR s Bx W0 x ub vb u v xs ys W) : W.cell? ⟨Bx, 0, none⟩ = some (.int .i32 x.1) := by simp [World.cell?, h.b3]
theorem RR.c1 (h : RR s Bx W0 x ub vb u v xs ys W) : W.cell? ⟨Bx, 1, none⟩ = some (.int .i64 (x.2.1 : Int)) := by simp [World.cell?, h.b3]
theorem RR.drew (h : RR s Bx W0 x ub vb u v xs ys W) : RR s Bx W0 x ub vb u v xs ys W.drew := ⟨h.kr.drew, h.b1, h.b2, h.b3, h.o1, h.o2⟩
end

/-- A block of one cell that the round has laid, apart from the rows. -/
def TmpAt (W : World) (g : Nat) (y : Value) (u v : Value) : Prop := W.cell? ⟨g, 0, none⟩ = some y ∧ g < W.heap.size ∧ some g ≠ u.ownBlock ∧ some g ≠ v.ownBlock
theorem TmpAt.new {W : World} {u v : Value} (y : Value) (t : TypeId) (hu : ∀ k, u.ownBlock = some k → k < W.heap.size) (hv : ∀ k, v.ownBlock = some k → k < W.heap.size) : TmpAt (W.alloc (.cells #[y] t)) W.heap.size y u v :=
  ⟨(Boxed.new W t y).cell, by simp, fun e => by have := hu _ e.symm; omega, fun e => by have := hv _ e.symm; omega⟩
theorem TmpAt.alloc {W : World} {g : Nat} {y u v : Value} (h : TmpAt W g y u v) (o : Obj) : TmpAt (W.alloc o) g y u v :=
  ⟨(World.cell?_of_block (w := W) (Below.heap_alloc W o g h.2.1)).trans h.1, by have := h.2.1; simp; omega, h.2.2.1, h.2.2.2⟩
end Go.Proofs.YtekpmpghbeeeoaaGreatDoor
