import Derived.Test.YtbooiaaejhbbkaaDiskQuota
/- DiskKeeps: what was synced is there behind each crash: the plain part. -/
namespace Go.Proofs.Ytbooiaaejhbbkaa
open Go.RowKit Go.Maps Go.Proofs.YtbooiaaejhbbkaaW.PrintWords Go.Proofs.YtbooiaaejhbbkaaW.PrintMore

def xN : NM := [([120], 0)]
def xC : List Chg := [⟨some 0, [], [120]⟩]
/-- A disk of one file. -/
def kd (K : NM) (C : List Chg) (st : Nat) (f : Fl) : DS := ⟨1000, xN, K, C, (st : Int), 0, 0, [f]⟩
theorem kd_new : (newD 1000).create [120] = (0, kd [] xC 1 ⟨[], 0⟩) := rfl
theorem kd_open (K : NM) (C : List Chg) (st : Nat) (f : Fl) : (kd K C st f).tick.open_ [120] [] = 0 :=
  open_ok (i := 0) (code_ok rfl (show ¬ ((st : Int) + 1 = 0) by omega) (by decide +kernel)) rfl
theorem kd_append (K : NM) (C : List Chg) (st : Nat) (u v : List Int) (kp : Nat) (h : u.length + v.length ≤ 1000) : (kd K C st ⟨u, kp⟩).append [120] v = (0, kd K C (st + 1) ⟨u ++ v, kp⟩) := by
  have hu : (kd K C st ⟨u, kp⟩).used = u.length := by
    show [u.length].sum = _
    simp
  have hq : (kd K C st ⟨u, kp⟩).quota = 1000 := rfl
  rw [append_yes (kd K C st ⟨u, kp⟩) [120] v 0 ⟨u, kp⟩ (kd_open K C st _) rfl rfl (by rw [hu, hq]; dsimp only; omega)]
  rfl
theorem kd_sync (K : NM) (C : List Chg) (st : Nat) (u : List Int) (kp : Nat) : (kd K C st ⟨u, kp⟩).sync [120] = (0, kd K C (st + 1) ⟨u, u.length⟩) := by
  rw [sync_yes (kd K C st ⟨u, kp⟩) [120] 0 ⟨u, kp⟩ (kd_open K C st _) rfl rfl]
  rfl
theorem kd_syncDir (K : NM) (C : List Chg) (st : Nat) (f : Fl) : (kd K C st f).syncDir = (0, kd xN [] (st + 1) f) := by
  have hc : (kd K C st f).tick.code [] = 0 := code_ok rfl (show ¬ ((st : Int) + 1 = 0) by omega) rfl
  unfold DS.syncDir
  dsimp only
  rw [if_neg (by rw [hc]; decide)]
  rfl
/-- What a crash leaves of the file. -/
def fallen (all : List Int) (r q : Nat) : List Int := all.take r ++ List.replicate q 0
theorem fellB_fallen (f : Fl) (a b : Nat) (ha : f.kept + a ≤ f.b.length) (hb : b ≤ a) : fellB f a b = fallen f.b (f.kept + a - b) b := by
  unfold fellB fallen
  have h1 : (f.b.take (f.kept + a)).length = f.kept + a := by rw [List.length_take]; omega
  rw [h1, List.take_take, Nat.min_eq_left (by omega), Nat.min_eq_left (by omega)]
theorem fallen_length (all : List Int) (r q : Nat) (h : r ≤ all.length) : (fallen all r q).length = r + q := by
  unfold fallen
  rw [List.length_append, List.length_take, List.length_replicate]
  omega
theorem fallen_lo (all : List Int) (r q j : Nat) (h : r ≤ all.length) (hj : j < r) : (fallen all r q).getD j 0 = all.getD j 0 := by
  unfold fallen
  rw [List.getD_eq_getElem?_getD, List.getD_eq_getElem?_getD, List.getElem?_append_left (by rw [List.length_take]; omega), List.getElem?_take_of_lt hj]
theorem fallen_hi (all : List Int) (r q j : Nat) (h : r ≤ all.length) (hj : r ≤ j) : (fallen all r q).getD j 0 = 0 := by
  unfold fallen
  have hl : (all.take r).length = r := by rw [List.length_take]; omega
  rw [List.getD_eq_getElem?_getD, List.getElem?_append_right (by omega), hl]
  cases h2 : (List.replicate q (0 : Int))[j - r]? with
  | none => rfl
  | some y =>
    have := List.mem_of_getElem? h2
    rw [List.eq_of_mem_replicate this]
    rfl
theorem fallen_by {all : List Int} (h : By all) (r q : Nat) : By (fallen all r q) := by_append (by_take h r) (by_zeros q)
/-- The first crash. -/
theorem kd_crash (K : NM) (C : List Chg) (st : Nat) (f : Fl) (cs : List Int) (hf : f.kept ≤ f.b.length) (hK : (K = xN ∧ C = []) ∨ (K = [] ∧ C = xC)) :
    (((kd K C st f).crash cs).read [120] = (200, []) ∧ ((kd K C st f).crash cs).list = [] ∧ K = []) ∨
    ∃ r q, f.kept ≤ r ∧ r + q ≤ f.b.length ∧ (kd K C st f).crash cs = kd xN [] st ⟨fallen f.b r q, r + q⟩ := by
  have hfile : ∀ cs', crashF [f] xN cs' = ([⟨fellB f (pick1 cs' (f.b.length - f.kept)).1 (pick1 (pick1 cs' (f.b.length - f.kept)).2 (pick1 cs' (f.b.length - f.kept)).1).1, (f.b.take (f.kept + (pick1 cs' (f.b.length - f.kept)).1)).length⟩], (pick1 (pick1 cs' (f.b.length - f.kept)).2 (pick1 cs' (f.b.length - f.kept)).1).2) := fun cs' => by
    have := crashF_step [f] ([120], 0) [] cs' f rfl
    exact this
  have hyes : ∀ cs', ∃ r q, f.kept ≤ r ∧ r + q ≤ f.b.length ∧ (crashF [f] xN cs').1 = [⟨fallen f.b r q, r + q⟩] := fun cs' => by
    have ha := pick1_le cs' (f.b.length - f.kept)
    have hb := pick1_le (pick1 cs' (f.b.length - f.kept)).2 (pick1 cs' (f.b.length - f.kept)).1
    refine ⟨f.kept + (pick1 cs' (f.b.length - f.kept)).1 - (pick1 (pick1 cs' (f.b.length - f.kept)).2 (pick1 cs' (f.b.length - f.kept)).1).1, (pick1 (pick1 cs' (f.b.length - f.kept)).2 (pick1 cs' (f.b.length - f.kept)).1).1, by omega, by omega, ?_⟩
    rw [hfile, fellB_fallen f _ _ (by omega) hb]
    have h1 : (f.b.take (f.kept + (pick1 cs' (f.b.length - f.kept)).1)).length = f.kept + (pick1 cs' (f.b.length - f.kept)).1 := by rw [List.length_take]; omega
    have h5 : f.kept + (pick1 cs' (f.b.length - f.kept)).1 - (pick1 (pick1 cs' (f.b.length - f.kept)).2 (pick1 cs' (f.b.length - f.kept)).1).1 + (pick1 (pick1 cs' (f.b.length - f.kept)).2 (pick1 cs' (f.b.length - f.kept)).1).1 = f.kept + (pick1 cs' (f.b.length - f.kept)).1 := by omega
    rw [h5, h1]
  rcases hK with ⟨rfl, rfl⟩ | ⟨rfl, rfl⟩
  · obtain ⟨r, q, h1, h2, h3⟩ := hyes (pick1 cs 0).2
    refine .inr ⟨r, q, h1, h2, ?_⟩
    unfold DS.crash
    simp only
    rw [show (kd xN [] st f).since = [] from rfl, show (kd xN [] st f).kept = xN from rfl, List.take_nil, show (replay xN []).getD [] = xN from rfl, show (kd xN [] st f).files = [f] from rfl, List.length_nil, h3]
    rfl
  · have hp := pick1_le cs 1
    obtain ⟨k, hk⟩ : ∃ k, (pick1 cs 1).1 = k := ⟨_, rfl⟩
    rw [hk] at hp
    have hk2 : k = 0 ∨ k = 1 := by omega
    rcases hk2 with rfl | rfl
    · left
      have hn : ((kd [] xC st f).crash cs).names = [] := by
        unfold DS.crash
        simp only
        rw [show (kd [] xC st f).since = xC from rfl, show xC.length = 1 from rfl, hk]
        rfl
      refine ⟨?_, ?_, rfl⟩
      · unfold DS.read
        rw [show ((kd [] xC st f).crash cs).off = false from rfl, if_neg (by decide), hn]
        rfl
      · unfold DS.list
        rw [show ((kd [] xC st f).crash cs).off = false from rfl, if_neg (by decide), hn]
        rfl
    · obtain ⟨r, q, h1, h2, h3⟩ := hyes (pick1 cs 1).2
      refine .inr ⟨r, q, h1, h2, ?_⟩
      unfold DS.crash
      simp only
      rw [show (kd [] xC st f).since = xC from rfl, show xC.length = 1 from rfl, hk, show (kd [] xC st f).kept = [] from rfl, show (replay [] (xC.take 1)).getD [] = xN from rfl, show (kd [] xC st f).files = [f] from rfl, h3]
      rfl
theorem kd_read (K : NM) (C : List Chg) (st : Nat) (f : Fl) : (kd K C st f).read [120] = (0, f.b) := rfl
theorem kd_again (st : Nat) (g : List Int) (n : Nat) (hn : g.length = n) : ((kd xN [] st ⟨g, n⟩).crash [9, 9, 9]).read [120] = (0, g) := by
  have h3 : (crashF [⟨g, n⟩] xN [9, 9]).1 = [⟨g, n⟩] := by
    have := crashF_step [⟨g, n⟩] ([120], 0) [] [9, 9] ⟨g, n⟩ rfl
    have h2 : (crashF [⟨g, n⟩] xN [9, 9]) = _ := this
    rw [h2]
    have e0 : (⟨g, n⟩ : Fl).b.length - (⟨g, n⟩ : Fl).kept = 0 := by dsimp only; omega
    rw [e0]
    have e1 : pick1 [9, 9] 0 = (0, [9]) := rfl
    rw [e1]
    have e2 : pick1 [9] 0 = (0, []) := rfl
    dsimp only
    rw [e2]
    show [(⟨fellB ⟨g, n⟩ 0 0, (g.take (n + 0)).length⟩ : Fl)] = _
    have e3 : fellB ⟨g, n⟩ 0 0 = g := by
      unfold fellB
      simp [← hn]
    rw [e3, Nat.add_zero, List.take_of_length_le (by omega), hn]
  have hc : (kd xN [] st ⟨g, n⟩).crash [9, 9, 9] = kd xN [] st ⟨g, n⟩ := by
    unfold DS.crash
    simp only
    rw [show (kd xN [] st ⟨g, n⟩).since = [] from rfl, List.length_nil, show pick1 [9, 9, 9] 0 = (0, [9, 9]) from rfl, show (kd xN [] st ⟨g, n⟩).kept = xN from rfl, List.take_nil, show (replay xN []).getD [] = xN from rfl, show (kd xN [] st ⟨g, n⟩).files = [⟨g, n⟩] from rfl, h3]
    rfl
  rw [hc]
  rfl
end Go.Proofs.Ytbooiaaejhbbkaa
