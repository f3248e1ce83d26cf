import Derived.Test.YtmdecbockpgagaaWalOpenF
/- Groups that are read, apart from a disk; one more behind them. -/
namespace Go.Proofs.Ytmdecbockpgagaa
open Go.RowKit Go.Maps Go.Proofs.YtmdecbockpgagaaW.PrintWords Go.Proofs.YtmdecbockpgagaaW.PrintMore
variable {B p lb : Nat} {w0 : World} {G : DG} {d : DS} {w w' : World} {nm : Nm} {ng : Int} {br : Bool}

/-- A row of groups is read, apart from a disk. -/
def RdF (G : DG) (w : World) (v : Value) (gs : List (List Rc)) : Prop := ∃ (A : Option Addr) (c : Nat) (us : List Value), v = .slice A gs.length c ∧ us.length = gs.length ∧
  (0 < gs.length → ∃ g, A = some ⟨g, 0, none⟩ ∧ ¬ G.has g ∧ g < w.heap.size ∧ ∀ (i : Nat) (u : Value), us[i]? = some u → w.cell? ⟨g, i, none⟩ = some u) ∧
  ∀ (i : Nat) (u : Value) (x : List Rc), us[i]? = some u → gs[i]? = some x → RdR w u x ∧ Far G u
theorem RdF.sl {v : Value} {gs : List (List Rc)} (h : RdF G w v gs) : ∃ A c, v = .slice A gs.length c := by
  obtain ⟨A, c, us, rfl, -⟩ := h
  exact ⟨A, c, rfl⟩
theorem RdF.cap {A : Option Addr} {n c c2 : Nat} {gs : List (List Rc)} (h : RdF G w (.slice A n c) gs) : RdF G w (.slice A n c2) gs := by
  obtain ⟨A', c', us, he, h1, h2, h3⟩ := h
  injection he with e1 e2 e3
  subst e1 e2
  exact ⟨_, _, us, rfl, h1, h2, h3⟩
theorem RdF.rdG {v : Value} {gs : List (List Rc)} (h : RdF G w v gs) : RdG w v gs := by
  obtain ⟨A, c, us, rfl, h1, h2, h3⟩ := h
  refine ⟨A, c, rfl, fun h0 => ?_⟩
  obtain ⟨g, rfl, -, -, hc⟩ := h2 h0
  refine ⟨g, rfl, fun i x hi => ?_⟩
  have hlt := (List.getElem?_eq_some_iff.1 hi).1
  have hu := List.getElem?_eq_getElem (show i < us.length by omega)
  exact ⟨_, hc i _ hu, (h3 i _ x hu hi).1⟩
theorem RdF.tr {v : Value} {gs : List (List Rc)} {G' : DG} (h : RdF G w v gs) (t : Tr w G w' G') : RdF G' w' v gs := by
  obtain ⟨A, c, us, rfl, h1, h2, h3⟩ := h
  refine ⟨A, c, us, rfl, h1, fun h0 => ?_, fun i u x hu hx => (h3 i u x hu hx).1.tr (h3 i u x hu hx).2 t⟩
  obtain ⟨g, rfl, hn, hlt, hc⟩ := h2 h0
  exact ⟨g, rfl, fun hh => hn (t.foot g hlt hh), Nat.lt_of_lt_of_le hlt t.size, fun i u hu => (World.cell?_of_block (t.block g hlt hn)).trans (hc i u hu)⟩
theorem OwnA.rdF {base : Nat} {v : Value} {gs : List (List Rc)} (h : OwnA G w base v gs) (hm : ∀ g ∈ gs, g.length ≤ 9223372036854775807) : RdF G w v gs := by
  obtain ⟨us, h1, h2, h3, h4⟩ := h
  have h2' := h2
  have each : ∀ (i : Nat) (u : Value) (x : List Rc), us[i]? = some u → gs[i]? = some x → RdR w u x ∧ Far G u := fun i u x hu hx =>
    ⟨(h4 i u x hu hx).1.rd (hm x (List.mem_of_getElem? hx)), Far.own (h4 i u x hu hx).2⟩
  rcases h2.2 with ⟨rfl, h0⟩ | ⟨g, cap, cur, rfl, _, hg, hc, _, _, _⟩
  · refine ⟨none, 0, us, by rw [← h1, h0], h1, fun h => absurd h (by omega), each⟩
  · refine ⟨some ⟨g, 0, none⟩, cap, us, by rw [h1], h1, fun _ => ⟨g, rfl, h3 g rfl, (Array.getElem?_eq_some_iff.1 hg).1, fun i u hu => ?_⟩, each⟩
    have := h2'.cells rfl i u hu
    rwa [add_plain] at this
theorem wpList_append_run {P : Program} {w w1 : World} {ops : Array Oper} {rest : List Oper} {o : Oper} {a : Act} {Q : Exit → Act → World → Prop} (hgd : o.guard = none) (s x : Operand) (t : TypeId)
    (ho : o.op = .call { callee := .builtin .append, args := #[s, x], argTypes := #[t, t] }) (v xv v1 : Value) (hs : a.eval s = v) (hx : a.eval x = xv)
    (hrun : (Builtin.append_ #[t, t] o.type #[v, xv]).run P w = .ok v1 w1) (h : wpList P ops Q rest (a.put o.dst v1) w1) : wpList P ops Q (o :: rest) a w := by
  refine wpList_plain hgd fun K hK => ?_
  unfold Oper.wp
  simp [execOp, ho, resolve, invoke, builtin, hs, hx, hrun, Result.andThen]
  exact hK _ _ h
/-- One more group behind a row that has no room. -/
theorem full_append_cap {A : Option Addr} {y : Value} {gs : List (List Rc)} {g : List Rc} (h : RdF G w (.slice A gs.length gs.length) gs) (hA : At B G d w) (hy : RdR w y g) (hf : Far G y) (hl : gs.length ≤ 1000000) (ty : TypeId) :
    ∃ v1 w1, (Builtin.append_ #[27, 27] ty #[.slice A gs.length gs.length, .slice (some ⟨w.heap.size, 0, none⟩) 1 1]).run Try.prog (w.alloc (.cells #[y] 32)) = .ok v1 w1 ∧ RdF G w1 v1 (gs ++ [g]) ∧ Below w.heap.size w w1 ∧ ∃ A c, v1 = .slice A (gs.length + 1) c ∧ gs.length + 1 ≤ c := by
  obtain ⟨i0, hi, hz0, hz1, hz2⟩ := info_parts infoRs
  obtain ⟨A', c', us, he, h1, h2, h3⟩ := h
  injection he with e1 _ _
  subst e1
  have hb1 := (Below.refl w.heap.size w).alloc (Nat.le_refl _) (.cells #[y] 32)
  have hnew : ∀ (j : Nat) (v : Value), [y][j]? = some v → (w.alloc (.cells #[y] 32)).cell? ((⟨w.heap.size, 0, none⟩ : Addr).add j) = some v := cell_one_new w y 32
  have fin : ∀ (W1 : World) (cells : Array Value) (cap : Nat), Below w.heap.size w W1 → (∀ (i : Nat) (u : Value), (us ++ [y])[i]? = some u → cells[i]? = some u) →
      RdF G (W1.alloc (.cells cells 32)) (.slice (some ⟨W1.heap.size, 0, none⟩) (gs.length + 1) cap) (gs ++ [g]) ∧ Below w.heap.size w (W1.alloc (.cells cells 32)) := fun W1 cells cap hb hcells => by
    have hb2 := hb.alloc hb.size (.cells cells 32)
    refine ⟨⟨some ⟨W1.heap.size, 0, none⟩, cap, us ++ [y], by simp, by simp [h1], fun _ => ⟨W1.heap.size, rfl, fun hh => ?_, by simp, fun i u hu => cells_blk (alloc_new W1 _) i u (hcells i u hu)⟩, fun i u x hu hx => ?_⟩, hb2⟩
    · have := (hA.has_lt hh).2
      have := hb.size
      omega
    · rcases Nat.lt_or_ge i us.length with hlt | hge
      · rw [List.getElem?_append_left hlt] at hu
        rw [List.getElem?_append_left (by omega)] at hx
        exact ⟨(h3 i u x hu hx).1.below hb2, (h3 i u x hu hx).2⟩
      · have hi0 : i = us.length := by
          have := (List.getElem?_eq_some_iff.1 hu).1
          simp at this
          omega
        subst hi0
        rw [List.getElem?_append_right (Nat.le_refl _), Nat.sub_self] at hu
        rw [h1, List.getElem?_append_right (Nat.le_refl _), Nat.sub_self] at hx
        simp only [List.getElem?_cons_zero, Option.some.injEq] at hu hx
        subst hu hx
        exact ⟨hy.below hb2, hf⟩
  have hz1' : i0.size = 1 := hz1
  have nsc : ∀ n, n ≤ 1000000 → Builtin.nextslicecap (n + 1) n * i0.bytes ≤ 281474976710656 := fun n hn => by
    rw [hz2]
    have hg : ∀ (r c : Nat), c ≤ 1000000 → Builtin.growBy (n + 1) r c ≤ 5000000 ∨ True := fun _ _ _ => .inr trivial
    unfold Builtin.nextslicecap
    split
    · omega
    · split
      · omega
      · have g4 : ∀ (k c M : Nat), c ≤ M → Builtin.growBy (n + 1) k c ≤ (M + 1000) * 2 ^ k := by
          intro k
          induction k with
          | zero => intro c M hc; unfold Builtin.growBy; omega
          | succ k ih =>
            intro c M hc
            unfold Builtin.growBy
            have hp : 0 < 2 ^ k := Nat.pow_pos (by decide)
            split
            · have : (M + 1000) * 1 ≤ (M + 1000) * 2 ^ (k + 1) := Nat.mul_le_mul_left _ (Nat.pow_pos (by decide))
              omega
            · have h := ih (c + (c + 768) / 4) (2 * M + 1000) (by omega)
              rw [Nat.pow_succ]
              have e : (2 * M + 1000 + 1000) * 2 ^ k = (M + 1000) * (2 ^ k * 2) := by
                rw [Nat.mul_comm (2 ^ k) 2, ← Nat.mul_assoc, show 2 * M + 1000 + 1000 = (M + 1000) * 2 by omega]
              omega
        have := g4 4 n 1000000 hn
        omega
  have cellsAt : ∀ (z : Array Value) (i : Nat) (u : Value), (us ++ [y])[i]? = some u → (us.toArray ++ [y].toArray ++ z)[i]? = some u := fun z i u hu => by
    have hlt := (List.getElem?_eq_some_iff.1 hu).1
    rw [Array.getElem?_append_left (by simp at hlt ⊢; omega)]
    simpa using hu
  cases A with
  | none =>
    have h0 : gs = [] := by
      rcases Nat.eq_zero_or_pos gs.length with h | h
      · exact List.eq_nil_of_length_eq_zero h
      · obtain ⟨g', hg', -⟩ := h2 h
        cases hg'
    subst h0
    obtain rfl : us = [] := List.eq_nil_of_length_eq_zero h1
    have hr := run_append_nil (P := Try.prog) (w := w.alloc (.cells #[y] 32)) 27 ty 32 i0 (.slice none 0 0) Try.underlying27 hi hz0 ⟨w.heap.size, 0, none⟩ 1 1 [y] (by rw [hz1]; rfl) hnew (by decide) (by decide) (by rw [hz2]; decide)
    refine ⟨_, _, hr, ?_⟩
    have hsz : (w.alloc (.cells #[y] 32)).heap.size = (w.alloc (.cells #[y] 32)).drew.heap.size := rfl
    rw [hsz]
    refine ((fin (w.alloc (.cells #[y] 32)).drew _ _ hb1.drew (fun i u hu => ?_)).imp id (fun h => ⟨h, _, _, rfl, grownCap_ge _ _ _ _⟩))
    · have := cellsAt (Builtin.zeroCells (Value.slice none 0 0).cells (grownCap (w.alloc (.cells #[y] 32)) 1 0 32 - 1)) i u hu
      simpa using this
  | some b =>
    have holds : ∀ (j : Nat) (v : Value), us[j]? = some v → (w.alloc (.cells #[y] 32)).cell? (b.add j) = some v := fun j v hj => by
      have hlt := (List.getElem?_eq_some_iff.1 hj).1
      obtain ⟨g', hg', -, hgl, hc⟩ := h2 (by omega)
      cases hg'
      rw [add_plain]
      exact pw_cell_below hb1 (hc j v hj)
    have hr := run_append_grow (P := Try.prog) (w := w.alloc (.cells #[y] 32)) 27 ty 32 i0 (.slice none 0 0) Try.underlying27 hi hz0 b gs.length gs.length us (by rw [hz1, h1]; omega) holds ⟨w.heap.size, 0, none⟩ 1 1 [y] (by rw [hz1]; rfl) hnew (by omega) (by omega) (nsc _ hl)
    refine ⟨_, _, hr, ?_⟩
    have hsz : (w.alloc (.cells #[y] 32)).heap.size = (w.alloc (.cells #[y] 32)).drew.heap.size := rfl
    rw [hsz]
    exact ((fin (w.alloc (.cells #[y] 32)).drew _ _ hb1.drew (fun i u hu => cellsAt _ i u hu)).imp id (fun h => ⟨h, _, _, rfl, grownCap_ge _ _ _ _⟩))
theorem full_append {A : Option Addr} {y : Value} {gs : List (List Rc)} {g : List Rc} (h : RdF G w (.slice A gs.length gs.length) gs) (hA : At B G d w) (hy : RdR w y g) (hf : Far G y) (hl : gs.length ≤ 1000000) (ty : TypeId) :
    ∃ v1 w1, (Builtin.append_ #[27, 27] ty #[.slice A gs.length gs.length, .slice (some ⟨w.heap.size, 0, none⟩) 1 1]).run Try.prog (w.alloc (.cells #[y] 32)) = .ok v1 w1 ∧ RdF G w1 v1 (gs ++ [g]) ∧ Below w.heap.size w w1 := by
  obtain ⟨v1, w1, h1, h2, h3, -⟩ := full_append_cap h hA hy hf hl ty
  exact ⟨v1, w1, h1, h2, h3⟩
/-- A slice of a row up to its length, without room. -/
theorem slice_full (A : Option Addr) (n c : Nat) (hc : n ≤ c) (W : World) : (Instr.slice 27 (.slice A n c) none (some (.int .i64 (n : Int))) (some (.int .i64 (n : Int)))).run Try.prog W = .ok (.slice A n n) W := by
  obtain ⟨i0, hi, hz0, hz1, hz2⟩ := info_parts infoRs
  have hel : Try.prog.elem 27 = 32 := by simp [Program.elem, Try.underlying27]
  have hu : Try.prog.underlying 27 = some (.slice (Try.prog.elem 27)) := by rw [hel]; exact Try.underlying27
  have ha : (A.map fun x => x.add 0) = A := by cases A <;> simp [Addr.add]
  rw [run_slice_hm W 27 A n c hu .i64 .i64 (n : Int) (n : Int) (by omega) (by omega) (by omega), hel]
  simp [sizeOf, typeInfo, hi, hz1, sliced, Result.andThen, ha]
end Go.Proofs.Ytmdecbockpgagaa
