import Derived.Test.YtmdecbockpgagaaCrcText
import Derived.Deep.QuietTactic
import Derived.BigQuiet
/- Quiet forms of the contracts of sums, for statements whose order is open; cuts of a row. -/
namespace Go.Proofs.Ytmdecbockpgagaa
open Go.RowKit Go.Proofs.YtmdecbockpgagaaW.PrintWords Go.Proofs.YtmdecbockpgagaaW.PrintMore

theorem RdB.drewN {w : World} {v : Value} {xs : List Int} (h : RdB w v xs) (n : Nat) : RdB (w.drewN n) v xs := h.below (pw_below_drewN (Below.refl _ _) n)
theorem RdB.nil (w : World) : RdB w (.slice none 0 0) [] := ⟨none, 0, rfl, Nat.le_refl _, rfl, by simp, fun h => absurd h (by simp)⟩
theorem By.nil : By [] := fun _ h => by simp at h
theorem By.take {xs : List Int} (h : By xs) (k : Nat) : By (xs.take k) := fun x hx => h x (List.mem_of_mem_take hx)
theorem By.drop {xs : List Int} (h : By xs) (k : Nat) : By (xs.drop k) := fun x hx => h x (List.mem_of_mem_drop hx)
theorem By.append {xs ys : List Int} (h : By xs) (h' : By ys) : By (xs ++ ys) := fun x hx => (List.mem_append.1 hx).elim (h x) (h' x)

theorem crc_sum_q (v : Value) (xs : List Int) (r : Int) (hx : ((crcMore 0#32 xs).toNat : Int) = r) (w : World) (hr : RdB w v xs) (hby : By xs) :
    ∀ n, Calls Try.prog 75 #[v] (w.drewN n) fun e w'' => e = .returned (.int .u32 r) ∧ ∃ m, w'' = w.drewN m :=
  fun n => (crc_sum v xs _ (hr.drewN n) hby).mono fun _ _ ⟨he, hw⟩ => ⟨by rw [he, hx], n, hw.symm⟩
theorem crc_more_q (s : BitVec 32) (v : Value) (xs : List Int) (r : Int) (hx : ((crcMore s xs).toNat : Int) = r) (w : World) (hr : RdB w v xs) (hby : By xs) :
    ∀ n, Calls Try.prog 74 #[.int .u32 (s.toNat : Int), v] (w.drewN n) fun e w'' => e = .returned (.int .u32 r) ∧ ∃ m, w'' = w.drewN m :=
  fun n => (crc_more s v xs _ (hr.drewN n) hby).mono fun _ _ ⟨he, hw⟩ => ⟨by rw [he, hx], n, hw.symm⟩

/-- xs[:j], one equation for the walk and what it reads. -/
theorem cut_to {w : World} {A : Option Addr} {c : Nat} {xs : List Int} (hc : xs.length ≤ c) (hr : ReadsInt w .u8 A xs.length xs) (kl : IntKind) (j : Int) (h0 : 0 ≤ j) (h1 : j ≤ xs.length) :
    ∃ ts : List Int, ts = xs.take j.toNat ∧ (∀ W : World, (Instr.slice 22 (.slice A xs.length c) none (some (.int kl j)) none).run Try.prog W = .ok (.slice A ts.length c) W) ∧ RdB w (.slice A ts.length c) ts ∧ (ts.length : Int) = j := by
  obtain ⟨i8, hi8, hz8, hs8, hb8⟩ := info_parts info8
  obtain ⟨ht1, ht2, ht3⟩ := print_take_of (P := Try.prog) (Value.int .u8) (0 : Int) 22 5 kl Try.underlying22 hi8 hs8 A c xs j h0 h1 hc
  exact ⟨_, rfl, ht1, ⟨A, c, rfl, ht3, ht2 w hr⟩, by rw [List.length_take]; omega⟩
/-- xs[j:] -/
theorem cut_from' {w : World} {A : Option Addr} {c : Nat} {xs : List Int} (hc : xs.length ≤ c) (hr : ReadsInt w .u8 A xs.length xs) (kl : IntKind) (j : Int) (h0 : 0 ≤ j) (h1 : j ≤ xs.length) :
    ∃ (ds : List Int) (A' : Option Addr) (c' : Nat), ds = xs.drop j.toNat ∧ (∀ W : World, (Instr.slice 22 (.slice A xs.length c) (some (.int kl j)) none none).run Try.prog W = .ok (.slice A' ds.length c') W) ∧ RdB w (.slice A' ds.length c') ds ∧ (ds.length : Int) = xs.length - j := by
  obtain ⟨i8, hi8, hz8, hs8, hb8⟩ := info_parts info8
  obtain ⟨A', hd1, hd2, hd3⟩ := print_drop_of (P := Try.prog) (Value.int .u8) (0 : Int) 22 5 kl Try.underlying22 hi8 hs8 A c xs j h0 h1 hc
  exact ⟨_, A', _, rfl, hd1, ⟨A', _, rfl, hd3, hd2 w hr⟩, by rw [List.length_drop]; omega⟩
/-- xs[j:], and what is read of it in every world. -/
theorem cut_fromT {A : Option Addr} {c : Nat} {xs : List Int} (hc : xs.length ≤ c) (kl : IntKind) (j : Int) (h0 : 0 ≤ j) (h1 : j ≤ xs.length) :
    ∃ (ds : List Int) (A' : Option Addr) (c' : Nat), ds = xs.drop j.toNat ∧ (∀ W : World, (Instr.slice 22 (.slice A xs.length c) (some (.int kl j)) none none).run Try.prog W = .ok (.slice A' ds.length c') W) ∧ (∀ W : World, ReadsInt W .u8 A xs.length xs → RdB W (.slice A' ds.length c') ds) ∧ (ds.length : Int) = xs.length - j := by
  obtain ⟨i8, hi8, hz8, hs8, hb8⟩ := info_parts info8
  obtain ⟨A', hd1, hd2, hd3⟩ := print_drop_of (P := Try.prog) (Value.int .u8) (0 : Int) 22 5 kl Try.underlying22 hi8 hs8 A c xs j h0 h1 hc
  exact ⟨_, A', _, rfl, hd1, fun W hr => ⟨A', _, rfl, hd3, hd2 W hr⟩, by rw [List.length_drop]; omega⟩
end Go.Proofs.Ytmdecbockpgagaa
