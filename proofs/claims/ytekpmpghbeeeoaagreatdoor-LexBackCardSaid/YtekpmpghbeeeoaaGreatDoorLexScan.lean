import Derived.Test.YtekpmpghbeeeoaaGreatDoorLexTokens
import Derived.Test.YtekpmpghbeeeoaaGreatDoorRowSame
import Derived.Test.YtekpmpghbeeeoaaGreatDoorRunes
/- package lex: Scan. -/
namespace Go.Proofs.YtekpmpghbeeeoaaGreatDoor
open Go.RowKit Go.Shelf Go.Proofs.YtekpmpghbeeeoaaGreatDoorW.PrintWords Go.Proofs.YtekpmpghbeeeoaaGreatDoorW.PrintMore

attribute [local go_sem] Oper.semAt_some

theorem app_sameT {W w1 : World} {tmp : Obj} {row : Option Nat} (hg : (W.alloc tmp).grownBy w1 row) (B : Nat) (u : Value) :
    ∀ k, k < W.heap.size → k ≠ B → some k ≠ row → (w1.setCell ⟨B, 0, none⟩ u).heap[k]? = W.heap[k]? := fun k hk hB hr =>
  (Below.heap_setCell w1 ⟨B, 0, none⟩ u k hB).trans ((hg.block k (by simp; omega) hr).trans (Below.heap_alloc W tmp k hk))
theorem app_metaT {W w1 : World} {tmp : Obj} {row : Option Nat} (hg : (W.alloc tmp).grownBy w1 row) {n B : Nat} (hn : n ≤ W.heap.size) (hB : n ≤ B) (hr : ∀ k, row = some k → n ≤ k) (u : Value) : Below n W (w1.setCell ⟨B, 0, none⟩ u) :=
  (((Below.refl n W).alloc hn tmp).grown hg (by simp; omega) hr).setCell (p := ⟨B, 0, none⟩) hB u
theorem cell_set_ne {X : World} {p a : Addr} (v : Value) (h : a.block ≠ p.block) : (X.setCell p v).cell? a = X.cell? a := World.cell?_of_block (Below.heap_setCell X p v a.block h)
/-- A sign's cells. -/
def tkC (t : Tok) : List Value := [.int .i64 t.kind, .int .i64 (t.at_ : Int), .string (S t.text), .int .i32 t.r]
/-- An own row of signs. -/
def OwnK (w : World) (base : Nat) (v : Value) (ts : List Tok) : Prop := w.ownsRow base 33 4 v ts.length (ts.flatMap tkC)
theorem infoTok : (Tryz.prog.info? 33).map (fun i => (i.zero, i.size, i.bytes)) = some (some (.agg #[.int .i64 0, .int .i64 0, .string ByteArray.empty, .int .i32 0]), 4, 40) := by kernel_rfl
theorem info_partsT {P : Program} {e : TypeId} {z : Value} {s b : Nat} (h : (P.info? e).map (fun i => (i.zero, i.size, i.bytes)) = some (some z, s, b)) : ∃ i, P.info? e = some i ∧ i.zero = some z ∧ i.size = s ∧ i.bytes = b := by
  obtain ⟨i, hi, hz⟩ := Option.map_eq_some_iff.1 h
  simp only [Prod.mk.injEq] at hz
  exact ⟨i, hi, hz.1, hz.2.1, hz.2.2⟩
theorem cell_four (W : World) (x y z u : Value) (t : TypeId) : ∀ (j : Nat) (q : Value), [x, y, z, u][j]? = some q → (W.alloc (.cells #[x, y, z, u] t)).cell? ((⟨W.heap.size, 0, none⟩ : Addr).add j) = some q := by
  intro j q hj
  rw [add_plain]
  unfold World.cell?
  rw [show (W.alloc (.cells #[x, y, z, u] t)).heap[W.heap.size]? = _ from World.alloc_heap_new W _]
  match j, hj with
  | 0, h => exact h
  | 1, h => exact h
  | 2, h => exact h
  | 3, h => exact h
/-- What Scan tells. -/
def ScanP (s : List UInt8) (w : World) (e : Ending) (w' : World) : Prop :=
  ((∃ p : Nat, (tk 0 s).2 = some p ∧ e = .returned (.tuple #[.slice none 0 0, .int .i64 (p : Int), .int .i64 60])) ∨
   ((tk 0 s).2 = none ∧ ∃ v, e = .returned (.tuple #[v, .int .i64 0, .int .i64 0]) ∧ OwnK w' w.heap.size v ((tk 0 s).1 ++ [⟨0, s.length, [], 0⟩]))) ∧ Below w.heap.size w w'
/-- What lies between two rounds of Scan's. -/
def AS (s : List UInt8) (w : World) (pre : List TEl) (W : World) : Prop :=
  (Below w.heap.size w W ∧ w.heap.size + 5 ≤ W.heap.size) ∧ Boxed W w.heap.size 23 (.slice none 0 0) ∧ Boxed W (w.heap.size + 1) 3 (.int .i64 0) ∧ Boxed W (w.heap.size + 2) 24 (.int .i64 0) ∧
  ∃ u ts, Boxed W (w.heap.size + 3) 23 u ∧ OwnK W (w.heap.size + 5) u ts ∧ pre = ts.map elT ∧ ∃ tl, (tk 0 s).1 = ts ++ tl
theorem AS.turn {s : List UInt8} {w X Y : World} {pre : List TEl} {B : Nat} (h : AS s w pre X) (hB : w.heap.size ≤ B) (t : Turn B (fun _ => False) X Y) : AS s w pre Y := by
  obtain ⟨h1, h2, h3, h4, u, ts, h5, h6, h7⟩ := h
  exact ⟨⟨t.below h1.1 (Nat.le_refl _) hB (fun k e => e.elim), Nat.le_trans h1.2 t.size⟩, t.boxed h2 (fun e => e), t.boxed h3 (fun e => e), t.boxed h4 (fun e => e), u, ts, t.boxed h5 (fun e => e), t.row h6 (fun k hk e => e), h7⟩
/-- What lies when a round has told where no sign begins. -/
def AX (s : List UInt8) (w : World) (W : World) : Prop :=
  Below w.heap.size w W ∧ ∃ p : Nat, (tk 0 s).2 = some p ∧ Boxed W w.heap.size 23 (.slice none 0 0) ∧ Boxed W (w.heap.size + 1) 3 (.int .i64 (p : Int)) ∧ Boxed W (w.heap.size + 2) 24 (.int .i64 60)
theorem AX.turn {s : List UInt8} {w X Y : World} {B : Nat} (h : AX s w X) (hB : w.heap.size ≤ B) (t : Turn B (fun _ => False) X Y) : AX s w Y := by
  obtain ⟨h1, p, h2, h3, h4, h5⟩ := h
  exact ⟨t.below h1 (Nat.le_refl _) hB (fun k e => e.elim), p, h2, t.boxed h3 (fun e => e), t.boxed h4 (fun e => e), t.boxed h5 (fun e => e)⟩
set_option maxRecDepth 100000 in
set_option maxHeartbeats 4000000 in
theorem scan_in (n : Nat) (hn : 2 ≤ n) (s : List UInt8) (w : World) (hT : Tabs w) (hlen : s.length ≤ 800000) :
    CallsIn Fence.wide n Tryz.prog 11 #[.string (S s)] w (ScanP s w) := by
  obtain ⟨i0, hi, hz0, hz1, hz2⟩ := info_partsT infoTok
  have hn1 : 1 ≤ n := by omega
  have hml := (tk_order _ 0 s (Nat.le_refl _)).2.2.2
  have HSZ := S_size s
  refine callsIn_of_wp_marks Tryz.func11 rfl trivial ?_ rfl
  simp only [Tryz.ntmps11, List.size_toArray, List.length_cons, List.length_nil, Nat.reduceAdd, Nat.reduceSub, Array.replicate_succ, Array.replicate_zero, List.push_toArray, List.append_toArray, List.nil_append, List.cons_append]
  obtain ⟨wa, hwa⟩ : ∃ x, (((w.alloc (.cells #[.slice none 0 0] 23)).alloc (.cells #[.int .i64 0] 3)).alloc (.cells #[.int .i64 0] 24)).alloc (.cells #[.slice none 0 0] 23) = x := ⟨_, rfl⟩
  have hsza : wa.heap.size = w.heap.size + 4 := by rw [← hwa]; simp
  have hBa : Below w.heap.size w wa := by
    rw [← hwa]
    exact ((((Below.refl _ w).alloc (Nat.le_refl _) _).alloc (by simp) _).alloc (by simp; omega) _).alloc (by simp; omega) _
  have q0 : Boxed wa w.heap.size 23 (.slice none 0 0) := by
    rw [← hwa]; exact (((Boxed.new w _ _).alloc _).alloc _).alloc _
  have q1 : Boxed wa (w.heap.size + 1) 3 (.int .i64 0) := by
    have := Boxed.new (w.alloc (.cells #[.slice none 0 0] 23)) 3 (.int .i64 0)
    simp only [World.size_alloc] at this
    rw [← hwa]; exact ((this).alloc _).alloc _
  have q2 : Boxed wa (w.heap.size + 2) 24 (.int .i64 0) := by
    have := Boxed.new ((w.alloc (.cells #[.slice none 0 0] 23)).alloc (.cells #[.int .i64 0] 3)) 24 (.int .i64 0)
    simp only [World.size_alloc] at this
    rw [← hwa]; exact this.alloc _
  have q3 : Boxed wa (w.heap.size + 3) 23 (.slice none 0 0) := by
    have := Boxed.new (((w.alloc (.cells #[.slice none 0 0] 23)).alloc (.cells #[.int .i64 0] 3)).alloc (.cells #[.int .i64 0] 24)) 23 (.slice none 0 0)
    simp only [World.size_alloc] at this
    rw [← hwa]; exact this
  gi_wp2_with fail
  refine ⟨trivial, (tokens_in (n - 1) (S s) _).mono ?_⟩
  rintro e w' ⟨rfl, rfl⟩
  clear hwa
  have b4 := Boxed.new wa 9 (.string (S s))
  rw [hsza] at b4 ⊢
  obtain ⟨W0, hW0⟩ : ∃ x, wa.alloc (.cells #[.string (S s)] 9) = x := ⟨_, rfl⟩
  have hB0 : Below w.heap.size w W0 := by rw [← hW0]; exact hBa.alloc (by omega) _
  have hsz : W0.heap.size = w.heap.size + 5 := by rw [← hW0]; simp; omega
  have hI0 : AS s w [] W0 := by
    rw [← hW0]
    exact ⟨⟨hBa.alloc (by omega) _, by simp; omega⟩, q0.alloc _, q1.alloc _, q2.alloc _, _, [], q3.alloc _, World.ownsRow_nil _ _ _ _, rfl, _, rfl⟩
  rw [hW0] at b4 ⊢
  clear hW0 q0 q1 q2 q3 hBa hsza
  gi_wp2_with fail
  refine wpIn_rangeA (gf := 25) (lb := #[.pointer (some ⟨w.heap.size + 4, 0, none⟩)]) rfl (enters_of Tryz.func25 (by kernel_rfl) rfl)
    (tokens_seq (n - 1) (w.heap.size + 4) w.heap.size (by omega) w W0 s rfl hlen hT hB0 b4)
    (fun h k => ⟨h.1.trans k.1, k.2.trans h.2⟩)
    (fun W l o o' hl ho hc => ⟨(Below.refl _ W).grown (grownBy_putObj' W l o') (by have := (Array.getElem?_eq_some_iff.1 ho).1; omega) (fun k e => by cases e; omega), World.putObj_heap_other (by omega)⟩)
    (Below.refl _ _) (fun _ => rfl) (fun k e => e.elim) (fun s x X Y h _ => h)
    (AS s w) (fun c pre W => c = .ret ∧ AX s w W) (fun s X Y h t => h.turn (by omega) t) (fun c s X Y h t => ⟨h.1, h.2.turn (by omega) t⟩) hI0
    (fun pre x a1 W => ∃ Bx, w.heap.size + 5 ≤ Bx ∧ TokAt W Bx x.1.1 x.1.2.1 x.1.2.2.1 x.1.2.2.2 ∧
      a1 = { tmps := #[.string (S s), undef, .pointer (some ⟨w.heap.size, 0, none⟩), .pointer (some ⟨w.heap.size + 1, 0, none⟩), .pointer (some ⟨w.heap.size + 1 + 1, 0, none⟩), .pointer (some ⟨w.heap.size + 1 + 1 + 1, 0, none⟩), .pointer (some ⟨Bx, 0, none⟩), .bool x.2, .string (S s), .func (.func 25) #[] #[.pointer (some ⟨w.heap.size + 4, 0, none⟩)], .agg #[.int .i64 x.1.1, .int .i64 x.1.2.1, .string x.1.2.2.1, .int .i32 x.1.2.2.2], .bool x.2, undef, undef, undef, undef, undef, undef, undef, undef, undef, undef, undef, undef, undef, undef], defers := [] })
    (fun s x a X Y ⟨Bx, h1, h2, h3⟩ t => ⟨Bx, h1, t.same Bx _ h2 (fun e => e) (.inr rfl), h3⟩) ?assign ?body ?done ?stop
  case assign =>
    intro l pre x W K hI hG hK
    unfold encK
    gi_wp2
    refine hK _ _ ⟨W.heap.size, hI.1.2, ?_, rfl⟩ (KeepsOthers.alloc _ _)
      ⟨(Below.refl _ W).alloc (by have := hI.1.2; omega) _, Below.heap_alloc W _ _ (by have := hI.1.2; omega)⟩ (hI.turn (Nat.le_refl _) (Turn.alloc _ _ _ _)) hG
    unfold TokAt World.alloc
    simp
  case body =>
    rintro l pre x a1 W ⟨Bx, hBx, hb3, rfl⟩ ⟨h1, h2, h3, h4, u, ts, h5, h6, h7, tl, h8⟩ hG
    have c5 := h5.cell
    have f5 := h5.frozen
    have hwt := h1.2
    have hpl : pre.length = ts.length := by rw [h7, List.length_map]
    obtain ⟨c0, c1, c2, c3, f0, f1, f2, f3⟩ := hb3.cells
    cases hb : x.2 with
    | true =>
      obtain ⟨tok, hget, rfl⟩ := hG.1 hb
      rw [hpl, h8, List.getElem?_append_right (Nat.le_refl _), Nat.sub_self] at hget
      have htl : ∃ tl', (tk 0 s).1 = (ts ++ [tok]) ++ tl' := by
        cases tl with
        | nil => simp at hget
        | cons y tl =>
          simp only [List.getElem?_cons_zero, Option.some.injEq] at hget
          subst hget
          exact ⟨tl, by rw [h8]; simp⟩
      have htn : ts.length < s.length := by
        obtain ⟨tl', he⟩ := htl
        have := congrArg List.length he
        rw [List.length_append, List.length_append, List.length_singleton] at this
        omega
      have HTL := Lib.hid htl
      have H7 := Lib.hid h7
      have HGG := Lib.hid hget
      clear hb hG hget htl h8 h7 hpl
      dsimp only [elT] at c0 c1 c2 c3 hb3 ⊢
      gi_wp2_with (gi_at_builtin; refine wpListIn_append_own _ rfl _ _ 23 rfl (w.heap.size + 5) 33 i0 (.agg #[.int .i64 0, .int .i64 0, .string ByteArray.empty, .int .i32 0]) 4 40 Tryz.underlying23 hi hz0 hz1 hz2 rfl (by decide) _ _ _ rfl (World.ownsRow.alloc h6 _) ⟨W.heap.size, 0, none⟩ 1 1 (tkC tok) rfl rfl (cell_four _ _ _ _ _ _) (by simp [tkC, Value.oneCell']) (by have : maxLen = 9223372036854775807 := rfl; omega) (by omega) (by simp; omega) ?_; intro v' w1 hown' hgrow _; obtain ⟨g', cap', rfl⟩ := ownsRow_succ hown'; have hc1 : w1.cell? ⟨w.heap.size + 1 + 1 + 1, 0, none⟩ = some u := Boxed.cell ((h5.alloc _).kept hgrow (row_ne h6 (by omega))); have hf1 : w1.frozen? ⟨w.heap.size + 1 + 1 + 1, 0, none⟩ = false := Boxed.frozen ((h5.alloc _).kept hgrow (row_ne h6 (by omega))))
      have hsm := app_sameT hgrow (w.heap.size + 3) (.slice (some ⟨g', 0, none⟩) (ts.length + 1) cap')
      have hBW : Below w.heap.size W (w1.setCell ⟨w.heap.size + 3, 0, none⟩ (.slice (some ⟨g', 0, none⟩) (ts.length + 1) cap')) := app_metaT hgrow (by omega) (by omega) (fun k e => by have := (h6.lt k e).1; omega) _
      have hkeep : ∀ k, k < w.heap.size + 5 → k ≠ w.heap.size + 3 → (w1.setCell ⟨w.heap.size + 3, 0, none⟩ (.slice (some ⟨g', 0, none⟩) (ts.length + 1) cap')).heap[k]? = W.heap[k]? := fun k hk hk3 => hsm k (by omega) hk3 (row_ne h6 hk)
      have hb1 : Boxed w1 (w.heap.size + 3) 23 u := (h5.alloc _).kept hgrow (row_ne h6 (by omega))
      refine ⟨⟨hBW.size, fun k o hk ho => ?_⟩, ⟨hBW, hkeep _ (by omega) (by omega)⟩, ⟨h1.1.trans hBW, Nat.le_trans hwt hBW.size⟩, (hkeep _ (by omega) (by omega)).trans h2, (hkeep _ (by omega) (by omega)).trans h3, (hkeep _ (by omega) (by omega)).trans h4, _, ts ++ [tok], hb1.set _, ?_, ?_, HTL.out⟩
      · refine (hsm k (Array.getElem?_eq_some_iff.1 hk).1 ?_ ?_).trans hk
        · rintro rfl; rw [show W.heap[w.heap.size + 3]? = _ from h5] at hk; cases hk; cases ho
        · intro e; obtain ⟨cs, rfl⟩ := row_cells h6 e hk; cases ho
      · show World.ownsRow _ _ _ _ _ _ _
        rw [List.length_append, List.length_singleton, List.flatMap_append]
        have hlt := hown'.lt g' rfl
        refine row_same (x := ts.flatMap tkC ++ tkC tok) hown' (fun k hk hky => ?_)
        obtain rfl : k = g' := by simpa [Value.ownBlock] using hky
        exact Below.heap_setCell _ ⟨w.heap.size + 3, 0, none⟩ _ k (by simp; omega)
      · rw [H7.out, List.map_append]; rfl
    | false =>
      obtain ⟨p, hp, hx⟩ := hG.2 hb
      have HP := Lib.hid hp
      rw [hx] at c1
      have cc0 := h2.cell
      have ff0 := h2.frozen
      have cc1 := h3.cell
      have ff1 := h3.frozen
      have cc2 := h4.cell
      have ff2 := h4.frozen
      clear hp hG
      gi_wp2_with fail
      refine wpIn_round_held (S := fun X => X.cell? ⟨Bx, 1, none⟩ = some (.int .i64 (p : Int))) (by kernel_rfl) (fun ⟨_, _, h⟩ => h) (by kernel_rfl) c1 (fun hHeld => ?_)
      have hfin : KeepsOthers W (((W.drew.setCell ⟨w.heap.size, 0, none⟩ (.slice none 0 0)).setCell ⟨w.heap.size + 1, 0, none⟩ (.int .i64 (p : Int))).setCell ⟨w.heap.size + 1 + 1, 0, none⟩ (.int .i64 60)) ∧ AX s w (((W.drew.setCell ⟨w.heap.size, 0, none⟩ (.slice none 0 0)).setCell ⟨w.heap.size + 1, 0, none⟩ (.int .i64 (p : Int))).setCell ⟨w.heap.size + 1 + 1, 0, none⟩ (.int .i64 60)) := by
        have k2 : Boxed W.drew w.heap.size 23 (.slice none 0 0) := h2
        have k3 : Boxed W.drew (w.heap.size + 1) 3 (.int .i64 0) := h3
        have k4 : Boxed W.drew (w.heap.size + 2) 24 (.int .i64 0) := h4
        have g1 := grownBy_setCell' W.drew w.heap.size (.slice none 0 0)
        have g2 := grownBy_setCell' (W.drew.setCell ⟨w.heap.size, 0, none⟩ (.slice none 0 0)) (w.heap.size + 1) (.int .i64 (p : Int))
        have g3 := grownBy_setCell' ((W.drew.setCell ⟨w.heap.size, 0, none⟩ (.slice none 0 0)).setCell ⟨w.heap.size + 1, 0, none⟩ (.int .i64 (p : Int))) (w.heap.size + 2) (.int .i64 60)
        have hBB : Below w.heap.size W (((W.drew.setCell ⟨w.heap.size, 0, none⟩ (.slice none 0 0)).setCell ⟨w.heap.size + 1, 0, none⟩ (.int .i64 (p : Int))).setCell ⟨w.heap.size + 1 + 1, 0, none⟩ (.int .i64 60)) :=
          (((Below.refl _ W).drew.setCell (p := ⟨w.heap.size, 0, none⟩) (Nat.le_refl _) _).setCell (p := ⟨w.heap.size + 1, 0, none⟩) (by simp) _).setCell (p := ⟨w.heap.size + 1 + 1, 0, none⟩) (by simp; omega) _
        refine ⟨⟨hBB.size, fun k o hk ho => ?_⟩, h1.1.trans hBB, p, HP.out, ((k2.set _).kept g2 (by simp)).kept g3 (by simp), ((k3.kept g1 (by simp)).set _).kept g3 (by simp), ((k4.kept g1 (by simp)).kept g2 (by simp)).set _⟩
        have e0 : k ≠ w.heap.size := by rintro rfl; rw [show W.heap[w.heap.size]? = _ from h2] at hk; cases hk; cases ho
        have e1 : k ≠ w.heap.size + 1 := by rintro rfl; rw [show W.heap[w.heap.size + 1]? = _ from h3] at hk; cases hk; cases ho
        have e2 : k ≠ w.heap.size + 1 + 1 := by rintro rfl; rw [show W.heap[w.heap.size + 1 + 1]? = _ from h4] at hk; cases hk; cases ho
        exact (Below.heap_setCell _ ⟨w.heap.size + 1 + 1, 0, none⟩ _ k e2).trans ((Below.heap_setCell _ ⟨w.heap.size + 1, 0, none⟩ _ k e1).trans ((Below.heap_setCell _ ⟨w.heap.size, 0, none⟩ _ k e0).trans hk))
      have HF := Lib.hid hfin
      have hbx1 : Bx ≠ w.heap.size := by omega
      have hbx2 : Bx ≠ w.heap.size + 1 := by omega
      have hbx3 : Bx ≠ w.heap.size + 1 + 1 := by omega
      clear hfin h1 h2 h3 h4 h5 h6 h7 h8
      refine held_take (i := 0) (v := ?_) rfl (by kernel_rfl) (by kernel_rfl) (by kernel_rfl) (fun _ _ _ h => h) (by rfl) hHeld ?y6_0 ?_
      case y6_0 => (intro w hSw; (try dsimp only at hSw); go_simp; try with_reducible rfl)
      try simp only [Act.put, List.setIfInBounds_toArray, List.set_cons_zero, List.set_cons_succ]
      refine held_take (i := 1) (v := ?_) rfl (by kernel_rfl) (by kernel_rfl) (by kernel_rfl) (fun _ _ _ h => h) (by rfl) hHeld ?y6_1 ?_
      case y6_1 => (intro w hSw; (try dsimp only at hSw); go_simp; try with_reducible rfl)
      try simp only [Act.put, List.setIfInBounds_toArray, List.set_cons_zero, List.set_cons_succ]
      refine held_one (i := 2) (by kernel_rfl) rfl (fun K hK => ?_)
      go_simp
      refine hK.out _ _ ((cell_set_ne (a := ⟨Bx, 1, none⟩) (p := ⟨w.heap.size, 0, none⟩) _ hbx1).trans hHeld) (fun hHeld => ?_)
      clear hK K
      try simp only [Act.put, List.setIfInBounds_toArray, List.set_cons_zero, List.set_cons_succ]
      refine held_one (i := 3) (by kernel_rfl) rfl (fun K hK => ?_)
      go_simp
      refine hK.out _ _ ((cell_set_ne (a := ⟨Bx, 1, none⟩) (p := ⟨w.heap.size + 1, 0, none⟩) _ hbx2).trans hHeld) (fun hHeld => ?_)
      clear hK K
      try simp only [Act.put, List.setIfInBounds_toArray, List.set_cons_zero, List.set_cons_succ]
      refine held_one (i := 4) (by kernel_rfl) rfl (fun K hK => ?_)
      go_simp
      refine hK.out _ _ ((cell_set_ne (a := ⟨Bx, 1, none⟩) (p := ⟨w.heap.size + 1 + 1, 0, none⟩) _ hbx3).trans hHeld) (fun hHeld => ?_)
      clear hK K
      try simp only [Act.put, List.setIfInBounds_toArray, List.set_cons_zero, List.set_cons_succ]
      refine wpAnyH_done (by kernel_rfl) ?_ _
      gi_wp2_with fail
      exact ⟨HF.out.1, rfl, HF.out.2⟩
  case done =>
    rintro D xs W hD hall ⟨h1, h2, h3, h4, u, ts, h5, h6, h7, tl, h8⟩ hK
    have hwt := h1.2
    obtain ⟨hl1, hl2⟩ : ts.length = (tk 0 s).1.length ∧ (tk 0 s).2 = none := by
      rcases hall with ⟨ha, hb⟩ | ⟨x, hx, hxf⟩
      · exact ⟨by rw [← ha, h7, List.length_map], hb⟩
      · rw [h7] at hx
        obtain ⟨tt, -, rfl⟩ := List.mem_map.1 hx
        cases hxf
    have hts : (tk 0 s).1 = ts := by
      have := congrArg List.length h8
      rw [List.length_append] at this
      rw [h8, List.eq_nil_of_length_eq_zero (l := tl) (by omega), List.append_nil]
    have c5 := h5.cell
    have f5 := h5.frozen
    have htn : ts.length ≤ s.length := by rw [hl1]; exact hml
    have HTS := Lib.hid hts
    have HL2 := Lib.hid hl2
    clear hall h7 h8 hl1 hl2 hts
    gi_wp2_with (gi_at_builtin; refine wpListIn_append_own _ rfl _ _ 23 rfl (w.heap.size + 5) 33 i0 (.agg #[.int .i64 0, .int .i64 0, .string ByteArray.empty, .int .i32 0]) 4 40 Tryz.underlying23 hi hz0 hz1 hz2 rfl (by decide) _ _ _ rfl (World.ownsRow.alloc h6 _) ⟨W.heap.size, 0, none⟩ 1 1 (tkC ⟨0, s.length, [], 0⟩) rfl rfl (cell_four _ _ _ _ _ _) (by simp [tkC, Value.oneCell']) (by have : maxLen = 9223372036854775807 := rfl; omega) (by omega) (by simp; omega) ?_; intro v' w1 hown' hgrow _; obtain ⟨g', cap', rfl⟩ := ownsRow_succ hown'; have z0 : Boxed w1 w.heap.size _ _ := (h2.alloc _).kept hgrow (row_ne h6 (by omega)); have z1 : Boxed w1 (w.heap.size + 1) _ _ := (h3.alloc _).kept hgrow (row_ne h6 (by omega)); have z2 : Boxed w1 (w.heap.size + 1 + 1) _ _ := (h4.alloc _).kept hgrow (row_ne h6 (by omega)); have d0 := z0.cell; have e0 := z0.frozen; have d1 := z1.cell; have e1 := z1.frozen; have d2 := z2.cell; have e2 := z2.frozen)
    have hDw : D < W.heap.size := (Array.getElem?_eq_some_iff.1 hK).1
    have hDr : some D ≠ u.ownBlock := fun e => by obtain ⟨cs, hcs⟩ := row_cells h6 e hK; cases hcs
    have hK1 : w1.heap[D]? = some (.deferred (some [])) := (hgrow.block D (by simp; omega) hDr).trans ((Below.heap_alloc W _ D hDw).trans hK)
    obtain ⟨v', hv'⟩ : ∃ v', Value.slice (some ⟨g', 0, none⟩) (ts.length + 1) cap' = v' := ⟨_, rfl⟩
    have g1 := grownBy_setCell' w1 w.heap.size v'
    have g2 := grownBy_setCell' (w1.setCell ⟨w.heap.size, 0, none⟩ v') (w.heap.size + 1) (.int .i64 0)
    have g3 := grownBy_setCell' ((w1.setCell ⟨w.heap.size, 0, none⟩ v').setCell ⟨w.heap.size + 1, 0, none⟩ (.int .i64 0)) (w.heap.size + 1 + 1) (.int .i64 0)
    have k0 := ((z0.set v').kept g2 (by simp)).kept g3 (by simp; omega)
    have k1 := ((z1.kept g1 (by simp)).set (.int .i64 0)).kept g3 (by simp)
    have k2 := ((z2.kept g1 (by simp; omega)).kept g2 (by simp)).set (.int .i64 0)
    have hlow : w.heap.size ≤ w1.heap.size := by have := hgrow.size; simp at this; omega
    have hB1 : Below w.heap.size W w1 := ((Below.refl _ W).alloc (by omega) _).grown hgrow (by simp; omega) (fun k e => by have := (h6.lt k e).1; omega)
    have hBE : Below w.heap.size W (((w1.setCell ⟨w.heap.size, 0, none⟩ v').setCell ⟨w.heap.size + 1, 0, none⟩ (.int .i64 0)).setCell ⟨w.heap.size + 1 + 1, 0, none⟩ (.int .i64 0)) :=
      ((hB1.setCell (p := ⟨w.heap.size, 0, none⟩) (Nat.le_refl _) _).setCell (p := ⟨w.heap.size + 1, 0, none⟩) (by simp) _).setCell (p := ⟨w.heap.size + 1 + 1, 0, none⟩) (by simp; omega) _
    have hoth : ∀ k, w.heap.size + 5 ≤ k → (((w1.setCell ⟨w.heap.size, 0, none⟩ v').setCell ⟨w.heap.size + 1, 0, none⟩ (.int .i64 0)).setCell ⟨w.heap.size + 1 + 1, 0, none⟩ (.int .i64 0)).heap[k]? = w1.heap[k]? := fun k hk =>
      (Below.heap_setCell _ ⟨w.heap.size + 1 + 1, 0, none⟩ _ k (by simp; omega)).trans ((Below.heap_setCell _ ⟨w.heap.size + 1, 0, none⟩ _ k (by simp; omega)).trans (Below.heap_setCell _ ⟨w.heap.size, 0, none⟩ _ k (by simp; omega)))
    have hrow := row_same hown' (fun k hk hky => hoth k (by
      obtain rfl : k = g' := by simpa [Value.ownBlock] using hky
      exact (hown'.lt k rfl).1))
    rw [hv'] at hrow ⊢
    have hKE := (hoth D (by omega)).trans hK1
    clear d0 e0 d1 e1 d2 e2 z0 z1 z2 g1 g2 g3
    obtain ⟨WE, hWE⟩ : ∃ x, ((w1.setCell ⟨w.heap.size, 0, none⟩ v').setCell ⟨w.heap.size + 1, 0, none⟩ (.int .i64 0)).setCell ⟨w.heap.size + 1 + 1, 0, none⟩ (.int .i64 0) = x := ⟨_, rfl⟩
    rw [hWE] at k0 k1 k2 hBE hrow hKE ⊢
    have hne : ∀ {b : Nat} {t : TypeId} {v : Value}, Boxed WE b t v → b < w.heap.size + 5 → Boxed (WE.putObj D (.deferred none)) b t v := fun {b t v} h hb =>
      (World.putObj_heap_other (by omega)).trans h
    have c0 := (hne k0 (by omega)).cell
    have c1 := (hne k1 (by omega)).cell
    have c2 := (hne k2 (by omega)).cell
    have hrow2 : (WE.putObj D (.deferred none)).ownsRow (w.heap.size + 5) 33 4 v' (ts.length + 1) (ts.flatMap tkC ++ tkC ⟨0, s.length, [], 0⟩) :=
      row_same hrow (fun k _ hky => World.putObj_heap_other (fun e => by rw [e] at hky; obtain ⟨cs, hcs⟩ := row_cells hrow hky hKE; cases hcs))
    clear k0 k1 k2 hoth hne
    refine ⟨by simp, .inl ⟨_, _, rfl, run_takeDeferred hKE, ?_⟩⟩
    refine ⟨.tuple #[v', .int .i64 0, .int .i64 0], ?_, .inr ⟨HL2.out, v', rfl, ?_⟩, h1.1.trans (hBE.trans (belowK_b (w := w) (Nat.le_refl _) WE D _ _ (by omega) hKE rfl rfl))⟩
    · first | (simp [results, Tryz.results11, go_sem, c0, c1, c2]; done) | (simp [results, Tryz.results11, go_sem, c0, c1, c2]; rfl)
    · rw [HTS.out]
      show World.ownsRow _ _ _ _ _ _ _
      rw [List.length_append, List.length_singleton, List.flatMap_append, List.flatMap_singleton]
      exact own_weaken hrow2 (by omega)
  case stop =>
    rintro D c pre W hD _ ⟨rfl, h1, p, h2, h3, h4, h5⟩ hK
    gi_wp2_with fail
    have hne : ∀ {b : Nat} {t : TypeId} {v : Value}, Boxed W b t v → b < w.heap.size + 5 → Boxed (W.putObj D (.deferred none)) b t v := fun {b t v} h hb =>
      (World.putObj_heap_other (by omega)).trans h
    have c0 := (hne h3 (by omega)).cell
    have c1 := (hne h4 (by omega)).cell
    have c2 : (W.putObj D (.deferred none)).cell? ⟨w.heap.size + 1 + 1, 0, none⟩ = _ := (hne h5 (by omega)).cell
    refine ⟨by simp, .inl ⟨_, _, rfl, run_takeDeferred hK, ?_⟩⟩
    refine ⟨.tuple #[.slice none 0 0, .int .i64 (p : Int), .int .i64 60], ?_, .inl ⟨p, h2, rfl⟩, h1.trans (belowK_b (w := w) (Nat.le_refl _) W D _ _ (by omega) hK rfl rfl)⟩
    first | (simp [results, Tryz.results11, go_sem, c0, c1, c2]; done) | (simp [results, Tryz.results11, go_sem, c0, c1, c2]; rfl)
theorem lex_scan (s : List UInt8) (w : World) (hT : Tabs w) (hlen : s.length ≤ 800000) : Calls Tryz.prog 11 #[.string (S s)] w (ScanP s w) :=
  callsIn_wide.1 (scan_in 2 (Nat.le_refl _) s w hT hlen)
end Go.Proofs.YtekpmpghbeeeoaaGreatDoor
