import Derived.Test.YthgjpppbpgndcaaGreatDoorChainPlain2
import Derived.Test.YthgjpppbpgndcaaGreatDoorChainShelf
import Derived.Maps.OwnSet
import Derived.Maps.RangeWalk
/- chain: New, get, Has, Set, Drop, All. -/
namespace Go.Proofs.YthgjpppbpgndcaaGreatDoor
open Go.RowKit Go.Maps Go.Shelf Go.Proofs.YthgjpppbpgndcaaGreatDoorW.PrintWords Go.Proofs.YthgjpppbpgndcaaGreatDoorW.PrintMore
variable {B p : Nat} {w0 w w' : World} {F : FM}

abbrev TMF : TypeId := 46
def RF : Value → Option (DataW Unit × List MemPlace)
  | .string s => if s.size ≤ maxLen then some (.lit (.string s.data.toList), []) else none
  | _ => none
def FSM (w : World) (b : Nat) (m : FM) : Prop := w.ownsMap Tryz.prog 9 RF b m.length (toF m)
theorem KSF : Keyed Tryz.prog 9 := string_keyed Tryz.underlying9
theorem FSM.fit {w : World} {b n : Nat} {m : FM} (h : w.ownsMap Tryz.prog 9 RF b n (toF m)) : FSM w b m := by
  obtain ⟨es, clock, hb, F, hs, hD⟩ := h
  refine ⟨es, clock, hb, F, ?_, hD⟩
  have h1 := toF_size m
  rw [hD] at h1
  have h2 := length_read (P := Tryz.prog) (k := 9) (R0 := RF) es
  rw [Maps.size_eq, h2] at h1
  omega
theorem FSM.lt {w : World} {b : Nat} {m : FM} (h : FSM w b m) : b < w.heap.size := World.ownsMap.lt h
theorem FSM.kept {w w' : World} {b : Nat} {m : FM} (h : FSM w b m) (he : w'.heap[b]? = w.heap[b]?) : FSM w' b m := by
  obtain ⟨es, clock, hb, r⟩ := h
  exact ⟨es, clock, he.trans hb, r⟩
theorem FSM.below {w w' : World} {b : Nat} {m : FM} (h : FSM w b m) (hb : Below w.heap.size w w') : FSM w' b m := h.kept (hb.block b h.lt)
theorem keyF {s : List UInt8} (hs : s.length ≤ 140737488351232) : keyOf Tryz.prog 9 (.string (S s)) = some (.string s) :=
  WideMaps.keyOf_string_mk Tryz.underlying9 (by rw [S_size]; unfold maxLen; omega)
theorem RF_mk {s : List UInt8} (hs : s.length ≤ 140737488351232) : RF (.string (S s)) = some (.lit (.string s), []) := by
  have hz := S_size s
  have h2 : (S s).size ≤ maxLen := by rw [hz]; unfold maxLen; omega
  show (if (S s).size ≤ maxLen then some (_, _) else none) = _
  rw [if_pos h2]
  rfl
theorem RF_inv {v : Value} {s : List UInt8} {ps : List MemPlace} (h : RF v = some (.lit (.string s), ps)) : v = .string (S s) := by
  cases v with
  | string b =>
    have h' : (if b.size ≤ maxLen then some ((.lit (.string b.data.toList) : DataW Unit), ([] : List MemPlace)) else none) = some (.lit (.string s), ps) := h
    split at h'
    · simp only [Option.some.injEq, Prod.mk.injEq, DataW.lit.injEq, Lit.string.injEq] at h'
      rw [← h'.1]
      rfl
    · cases h'
  | _ => cases h
theorem FSM.look {w : World} {b : Nat} {m : FM} (h : FSM w b m) (s : List UInt8) (hs : s.length ≤ 140737488351232) :
    (Instr.lookup TMF (.map (some b)) (.string (S s)) true).run Tryz.prog w = .ok (.tuple #[.string (S ((flk m s).getD [])), .bool (flk m s).isSome]) w := by
  obtain ⟨v, ps, hrun, hv⟩ := World.ownsMap.look_ok h KSF Tryz.underlying46 (z := .string ByteArray.empty) (Tryz.zeroValue9 w) (zd := .lit (.string [])) (zp := []) (RF_mk (s := []) (by simp)) (keyF hs)
  rw [toF_has] at hrun
  rw [toF_at] at hv
  have : v = .string (S ((flk m s).getD [])) := by
    cases hl : flk m s with
    | none => rw [hl] at hv; exact RF_inv hv
    | some f => rw [hl] at hv; exact RF_inv hv
  rw [hrun, this]
theorem FSM.put {w : World} {b : Nat} {m : FM} (h : FSM w b m) (hm : m.length ≤ 1000000) (s t : List UInt8) (hs : s.length ≤ 140737488351232) (ht : t.length ≤ 140737488351232) :
    ∃ w', (Instr.mapUpdate TMF (.map (some b)) (.string (S s)) (.string (S t))).run Tryz.prog w = .ok () w' ∧ FSM w' b (fput m s t) ∧ w.mapTurned w' b := by
  obtain ⟨w', hr, ho, ht⟩ := World.ownsMap.store h KSF Tryz.underlying46 (by unfold maxLen; omega) (keyF hs) (RF_mk ht)
  rw [toF_put] at ho
  exact ⟨w', hr, FSM.fit ho, ht⟩
theorem FSM.del {w : World} {b : Nat} {m : FM} (h : FSM w b m) (s : List UInt8) (hs : s.length ≤ 140737488351232) (ty : TypeId) :
    ∃ w', (Builtin.delete_ #[TMF, 9] ty #[.map (some b), .string (S s)]).run Tryz.prog w = .ok (.tuple #[]) w' ∧ FSM w' b (fdel m s) ∧ w.mapTurned w' b := by
  obtain ⟨w', hr, ho, ht⟩ := World.ownsMap.drop h KSF Tryz.underlying46 (keyF hs) ty
  rw [toF_del] at ho
  exact ⟨w', hr, FSM.fit ho, ht⟩
theorem FSM.made (w : World) : FSM (w.alloc (.map #[] 0)) w.heap.size [] := World.ownsMap_made w _ _ _
theorem FSM.rising {w : World} {b : Nat} {m : FM} (h : FSM w b m) : m.Pairwise fun p q => bytesBefore p.1 q.1 = true := by
  obtain ⟨es, clock, hb, F, hs, hD⟩ := h
  have h1 := WideShapes.rising_pairwise _ (fit_rising KSF F)
  unfold toF at hD
  injection hD with hD
  rw [← hD] at h1
  exact (List.pairwise_map.1 h1).imp fun h => h
theorem before_le {a b : List UInt8} (h : bytesBefore a b = true) : a ≤ b := by
  induction a generalizing b with
  | nil => exact List.nil_le b
  | cons x r ih =>
    cases b with
    | nil => cases h
    | cons y s =>
      unfold bytesBefore at h
      simp only [Bool.or_eq_true, Bool.and_eq_true, decide_eq_true_eq, beq_iff_eq] at h
      rcases h with h | ⟨rfl, h⟩
      · exact List.cons_le_cons_iff.2 (.inl h)
      · exact List.cons_le_cons_iff.2 (.inr ⟨rfl, ih h⟩)
theorem FSM.keys {w : World} {b : Nat} {m : FM} (h : FSM w b m) {ss : List (List UInt8)} (hp : ss.Perm (Go.strKeys (toF m))) : ss.mergeSort (fun x y => decide (x ≤ y)) = m.map (·.1) := by
  have hk : Go.strKeys (toF m) = m.map (·.1) := by
    show ((m.map fun p => (Lit.string p.1, (DataW.lit (Lit.string p.2) : DataW Unit))).map fun p => strOf p.1) = _
    rw [List.map_map]
    rfl
  rw [hk] at hp
  rw [Go.mergeSort_of_perm hp]
  refine List.mergeSort_of_pairwise ?_
  refine List.pairwise_map.2 (h.rising.imp fun h => ?_)
  exact decide_eq_true (before_le h)

/-- A forest at block p, as it lies in a walk that began at w0. -/
structure Ft (B p : Nat) (w0 : World) (F : FM) (w : World) : Prop where
  at_ : ∃ mb, w.heap[p]? = some (.cells #[.map (some mb)] 50 (0, 0)) ∧ FSM w mb F ∧ B ≤ mb
  lo : B ≤ p
  small : ∀ q ∈ F, q.1.length ≤ 100 ∧ q.2.length ≤ 100
  many : F.length ≤ 100000
  ml : ML w
  mlb : 1 < B
  bel : Below B w0 w
abbrev pv (p : Nat) : Value := .pointer (some ⟨p, 0, none⟩)
theorem Ft.p_lt (h : Ft B p w0 F w) : p < w.heap.size := by
  obtain ⟨mb, hc, -⟩ := h.at_
  exact (Array.getElem?_eq_some_iff.1 hc).1
theorem Ft.base (h : Ft B p w0 F w) : B ≤ w.heap.size := by have := h.p_lt; have := h.lo; omega
theorem Ft.below (h : Ft B p w0 F w) (hb : Below w.heap.size w w') : Ft B p w0 F w' := by
  obtain ⟨mb, hc, hm, hl⟩ := h.at_
  exact ⟨⟨mb, (hb.block p h.p_lt).trans hc, hm.below hb, hl⟩, h.lo, h.small, h.many, h.ml.below hb, h.mlb, h.bel.trans (hb.mono h.base)⟩

theorem cell_blk {g : Nat} {cs : Array Value} {t : TypeId} {fz : Nat × Nat} (h : w.heap[g]? = some (.cells cs t fz)) (j : Nat) (v : Value) (hj : cs[j]? = some v) : w.cell? ⟨g, j, none⟩ = some v := by
  unfold World.cell?
  rw [h]
  exact hj
/-- A row of another type has grown. -/
theorem Ft.grown {base : Nat} {e : TypeId} {size : Nat} {v : Value} {n : Nat} {xs : List Value} (h : Ft B p w0 F w) (hrow : w.ownsRow base e size v n xs) (he : e ≠ 50) (hbase : B ≤ base) (hg : w.grownBy w' v.ownBlock) : Ft B p w0 F w' := by
  obtain ⟨mb, hc, hm, hl⟩ := h.at_
  have hobj : ∀ {g : Nat}, v.ownBlock = some g → ∃ cur, w.heap[g]? = some (.cells cur e (0, 0)) := fun {g} hg => by
    rcases hrow.2 with ⟨rfl, _⟩ | ⟨g', cap, cur, rfl, hb, hg', r⟩
    · cases hg
    · cases hg
      exact ⟨cur, hg'⟩
  have h1 : some p ≠ v.ownBlock := fun e1 => by
    obtain ⟨cur, hb⟩ := hobj e1.symm
    rw [hc] at hb
    injection hb with hb
    injection hb with _ hb
    exact he hb.symm
  have h2 : some mb ≠ v.ownBlock := fun e1 => by
    obtain ⟨cur, hb⟩ := hobj e1.symm
    obtain ⟨es, clock, hk, -⟩ := hm
    rw [hk] at hb
    cases hb
  have h3 : ∀ k, v.ownBlock = some k → B ≤ k := fun k hk => Nat.le_trans hbase (World.ownsRow.lt hrow k hk).1
  have hb := h.base
  refine ⟨⟨mb, (hg.block p h.p_lt h1).trans hc, hm.kept (hg.block mb hm.lt h2), hl⟩, h.lo, h.small, h.many, ?_, h.mlb, h.bel.trans ⟨hg.os, hg.tape, hg.output, hg.size, fun k hk => hg.block k (by omega) (fun e1 => by have := h3 k e1.symm; omega)⟩⟩
  obtain ⟨m, hmm⟩ := h.ml
  exact ⟨m, hg.cell hmm (fun e1 => by have h4 := h3 _ e1.symm; have h5 := h.mlb; dsimp only at h4; omega)⟩
end Go.Proofs.YthgjpppbpgndcaaGreatDoor
