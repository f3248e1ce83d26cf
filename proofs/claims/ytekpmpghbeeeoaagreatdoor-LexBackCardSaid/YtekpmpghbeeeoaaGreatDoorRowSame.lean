import Derived.Test.YtekpmpghbeeeoaaGreatDoorLate
/- A row's own block among others. -/
namespace Go.Proofs.YtekpmpghbeeeoaaGreatDoor
open Go.RowKit Go.Proofs.YtekpmpghbeeeoaaGreatDoorW.PrintWords Go.Proofs.YtekpmpghbeeeoaaGreatDoorW.PrintMore
theorem row_ne {W : World} {b : Nat} {e : TypeId} {s : Nat} {v : Value} {n : Nat} {x : List Value} (h : W.ownsRow b e s v n x) {k : Nat} (hk : k < b) : some k ≠ v.ownBlock := fun e => by
  have := (h.lt k e.symm).1
  omega
theorem row_cells {W : World} {b : Nat} {e : TypeId} {s : Nat} {v : Value} {n : Nat} {x : List Value} (h : W.ownsRow b e s v n x) {k : Nat} {o : Obj} (hk : some k = v.ownBlock) (ho : W.heap[k]? = some o) : ∃ cs, o = .cells cs e (0, 0) := by
  rcases h.2 with ⟨rfl, _⟩ | ⟨g, cap, cur, rfl, _, hg, _⟩
  · cases hk
  · obtain rfl : k = g := by simpa [Value.ownBlock] using hk
    rw [hg] at ho
    cases ho
    exact ⟨_, rfl⟩
theorem row_same {W Y : World} {b : Nat} {e : TypeId} {s : Nat} {v : Value} {n : Nat} {x : List Value} (h : W.ownsRow b e s v n x) (hs : ∀ k, k < W.heap.size → some k = v.ownBlock → Y.heap[k]? = W.heap[k]?) : Y.ownsRow b e s v n x := by
  refine ⟨h.1, ?_⟩
  rcases h.2 with h' | ⟨g, cap, cur, rfl, hb, hg, hr⟩
  · exact .inl h'
  · exact .inr ⟨g, cap, cur, rfl, hb, (hs g (h.lt g rfl).2 rfl).trans hg, hr⟩
end Go.Proofs.YtekpmpghbeeeoaaGreatDoor
