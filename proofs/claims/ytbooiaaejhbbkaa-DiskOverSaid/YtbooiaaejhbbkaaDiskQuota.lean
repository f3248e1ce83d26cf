import Derived.Test.YtbooiaaejhbbkaaDiskPowers
/- DiskQuota: the files' bytes together are never more than the quota. -/
namespace Go.Proofs.Ytbooiaaejhbbkaa
open Go.RowKit Go.Maps Go.Proofs.YtbooiaaejhbbkaaW.PrintWords Go.Proofs.YtbooiaaejhbbkaaW.PrintMore
variable {B p : Nat} {w0 : World} {G : DG} {d : DS} {w w' : World}

theorem code_ok {d : DS} {ss : List Nm} (ho : d.off = false) (hf : ¬ d.steps = d.failAt) (hn : ss.all nameB = true) : d.code ss = 0 := by
  unfold DS.code
  rw [ho, if_neg (by decide), if_neg hf, if_pos hn]
theorem open_ok {d : DS} {s : Nm} {os : List Nm} {i : Nat} (hc : d.code (s :: os) = 0) (hm : mlk d.names s = some i) : d.open_ s os = 0 := by
  unfold DS.open_
  rw [hc, if_neg (by simp), hm]
  rfl
/-- A block that is no part of the disk. -/
def Fb (G : DG) (w : World) (k : Nat) (o : Obj) : Prop := w.heap[k]? = some o ∧ ¬ G.has k
theorem Fb.tr {G' : DG} {k : Nat} {o : Obj} (h : Fb G w k o) (t : Tr w G w' G') : Fb G' w' k o := by
  have hl := (Array.getElem?_eq_some_iff.1 h.1).1
  exact ⟨(t.block k hl h.2).trans h.1, fun hh => h.2 (t.foot k hl hh)⟩
theorem Fb.below {k : Nat} {o : Obj} (h : Fb G w k o) (hb : Below w.heap.size w w') : Fb G w' k o := ⟨(hb.block k (Array.getElem?_eq_some_iff.1 h.1).1).trans h.1, h.2⟩
theorem Fb.new (h : At B G d w) (o : Obj) : Fb G (w.alloc o) w.heap.size o := ⟨World.alloc_heap_new w o, fun hh => by have := (h.has_lt hh).2; omega⟩

def qd (q : Int) (a b c st : Nat) : DS := ⟨q, [([97], 0), ([98], 1), ([99], 2)], [], [⟨some 0, [], [97]⟩, ⟨some 1, [], [98]⟩, ⟨some 2, [], [99]⟩], (st : Int), 0, 0, [⟨List.replicate a 0, 0⟩, ⟨List.replicate b 0, 0⟩, ⟨List.replicate c 0, 0⟩]⟩
/-- Behind so many creations. -/
def qn (q : Int) (j : Nat) : DS := ⟨q, ([([97], 0), ([98], 1), ([99], 2)] : NM).take j, [], ([⟨some 0, [], [97]⟩, ⟨some 1, [], [98]⟩, ⟨some 2, [], [99]⟩] : List Chg).take j, (j : Int), 0, 0, ([⟨[], 0⟩, ⟨[], 0⟩, ⟨[], 0⟩] : List Fl).take j⟩
def nmQ (t : Nat) : Nm := [UInt8.ofNat (97 + t)]
theorem qn_create (q : Int) (j : Nat) (hj : j < 3) : (qn q j).create (nmQ j) = (0, qn q (j + 1)) := by
  have : j = 0 ∨ j = 1 ∨ j = 2 := by omega
  rcases this with rfl | rfl | rfl <;> rfl
theorem qd_used (q : Int) (a b c st : Nat) : (qd q a b c st).used = a + b + c := by
  show [(List.replicate a (0 : Int)).length, (List.replicate b (0 : Int)).length, (List.replicate c (0 : Int)).length].sum = _
  simp
  omega
theorem qd_open (q : Int) (a b c st : Nat) (t : Nat) (ht : t < 3) : (qd q a b c st).tick.open_ (nmQ t) [] = 0 ∧ mlk (qd q a b c st).names (nmQ t) = some t := by
  have hf : ¬ (qd q a b c st).tick.steps = (qd q a b c st).tick.failAt := by show ¬ ((st : Int) + 1 = 0); omega
  have : t = 0 ∨ t = 1 ∨ t = 2 := by omega
  rcases this with rfl | rfl | rfl
  · exact ⟨open_ok (i := 0) (code_ok rfl hf (by decide +kernel)) rfl, rfl⟩
  · exact ⟨open_ok (i := 1) (code_ok rfl hf (by decide +kernel)) rfl, rfl⟩
  · exact ⟨open_ok (i := 2) (code_ok rfl hf (by decide +kernel)) rfl, rfl⟩
def qdA (q : Int) (a b c st t n : Nat) : DS := match t with
  | 0 => qd q (a + n) b c st
  | 1 => qd q a (b + n) c st
  | _ => qd q a b (c + n) st
theorem qd_append (q : Int) (a b c st t n : Nat) (ht : t < 3) (hq : 0 ≤ q ∧ q < 2000) (hu : ((a + b + c : Nat) : Int) ≤ q) (_hn : n ≤ 255) :
    (qd q a b c st).append (nmQ t) (List.replicate n 0) = if ((a + b + c : Nat) : Int) + n ≤ q then (0, qdA q a b c (st + 1) t n) else (201, qd q a b c (st + 1)) := by
  obtain ⟨ho, hm⟩ := qd_open q a b c st t ht
  have hus := qd_used q a b c st
  have hqq : (qd q a b c st).quota = q := rfl
  obtain ⟨f, hf, hfl⟩ : ∃ f : Fl, (qd q a b c st).files[t]? = some f ∧ f.b.length ≤ a + b + c := by
    have : t = 0 ∨ t = 1 ∨ t = 2 := by omega
    rcases this with rfl | rfl | rfl
    · exact ⟨_, rfl, by simp; omega⟩
    · exact ⟨_, rfl, by simp; omega⟩
    · exact ⟨_, rfl, by simp⟩
  by_cases hc : ((a + b + c : Nat) : Int) + n ≤ q
  · rw [if_pos hc, append_yes (qd q a b c st) (nmQ t) (List.replicate n 0) t f ho hm hf (by rw [hus, hqq, List.length_replicate]; omega)]
    have : t = 0 ∨ t = 1 ∨ t = 2 := by omega
    rcases this with rfl | rfl | rfl
    · cases hf
      rw [List.replicate_append_replicate]
      rfl
    · cases hf
      rw [List.replicate_append_replicate]
      rfl
    · cases hf
      rw [List.replicate_append_replicate]
      rfl
  · rw [if_neg hc, append_no (qd q a b c st) (nmQ t) (List.replicate n 0) t f ho hm hf (by rw [hus, hqq, List.length_replicate]; omega)]
    rfl
theorem qdA_qd (q : Int) (a b c st t n : Nat) (ht : t < 3) : ∃ a' b' c', qdA q a b c st t n = qd q a' b' c' st ∧ a' + b' + c' = a + b + c + n := by
  have : t = 0 ∨ t = 1 ∨ t = 2 := by omega
  rcases this with rfl | rfl | rfl
  · exact ⟨a + n, b, c, rfl, by omega⟩
  · exact ⟨a, b + n, c, rfl, by omega⟩
  · exact ⟨a, b, c + n, rfl, by omega⟩
theorem qd_usedOut (q : Int) (a b c st : Nat) : (qd q a b c st).usedOut = a + b + c := by
  unfold DS.usedOut
  rw [show (qd q a b c st).off = false from rfl, if_neg (by decide), qd_used]
theorem qd_read (q : Int) (a b c st : Nat) : (qd q a b c st).read [97] = (0, List.replicate a 0) := rfl
theorem qd_remove (q : Int) (a b c st : Nat) : ((qd q a b c st).remove [97]).1 = 0 ∧ ((qd q a b c st).remove [97]).2.usedOut = b + c ∧ ((qd q a b c st).remove [97]).2.steps = (st : Int) + 1 := by
  have ho := (qd_open q a b c st 0 (by omega)).1
  have he : (qd q a b c st).remove [97] = (0, (qd q a b c st).tick.changes ⟨none, [97], []⟩) := by
    unfold DS.remove
    dsimp only
    rw [if_neg (by rw [show (qd q a b c st).tick.open_ [97] [] = 0 from ho]; decide)]
  rw [he]
  refine ⟨rfl, ?_, rfl⟩
  show [(List.replicate b (0 : Int)).length, (List.replicate c (0 : Int)).length].sum = _
  simp

set_option maxRecDepth 100000 in
set_option maxHeartbeats 4000000 in
theorem diskQuota_walk (q0 : Int) (v : Value) (xs : List Int) (w : World) (hq : 0 ≤ q0 ∧ q0 < 65536) (hv : RdB w v xs) (hby : By xs) (_hl : xs.length ≤ 140737488351232) :
    Calls Try.prog 4 #[.int .u16 q0, v] w fun e w' => e = .returned (.bool true) ∧ Below w.heap.size w w' := by
  obtain ⟨q, hqq⟩ : ∃ q : Nat, q0 % 2000 = (q : Int) := ⟨(q0 % 2000).toNat, by omega⟩
  have hq0 : q < 2000 := by omega
  have K0 := Lib.hid (law20_known w)
  have HV := Lib.hid hv
  obtain ⟨A, cp, rfl, hcp, hr⟩ := hv
  have hsz := hr.2.1
  clear hr
  go_enter Try.func4, Try.ntmps4
  go_wp2_with fail
  refine K0.out.mono ?_
  rintro e w1 ⟨rfl, hb1⟩
  have HB1 := Lib.hid hb1
  have K1 := Lib.hid (k_new w1 (q : Int))
  clear hb1 K0
  by_cases h60 : 60 < xs.length
  · have h60i : (60 : Int) < (xs.length : Int) := by omega
    go_wp2_with fail
    go_ret
    exact ⟨rfl, HB1.out⟩
  have h60i : ¬ (60 : Int) < (xs.length : Int) := by omega
  go_wp2_with fail
  refine K1.out.mono ?_
  rintro e w2 ⟨p, G0, rfl, hp, hk⟩
  have HK := Lib.hid hk
  clear hk K1
  go_wp2_with fail
  have HL60 : Hid (xs.length ≤ 60) := Lib.hid (by omega)
  clear hqq h60 h60i
  have HN0 : Hid (Dk w1.heap.size p w1 G0 (qn q 0) (w2.alloc (.cells #[.string (S [97]), .string (S [98]), .string (S [99])] 34)) ∧ Fb G0 (w2.alloc (.cells #[.string (S [97]), .string (S [98]), .string (S [99])] 34)) w2.heap.size (.cells #[.string (S [97]), .string (S [98]), .string (S [99])] 34)) :=
    Lib.hid ⟨HK.out.below ((Below.refl _ w2).alloc (Nat.le_refl _) _), Fb.new HK.out.at_ _⟩
  have hnb : w1.heap.size ≤ w2.heap.size := HK.out.bel.size
  generalize hnbb : w2.heap.size = nb at *
  go_loopw [9] (fun i wr => ∃ (j : Nat) (G : DG), i = .int .i64 (j : Int) ∧ j ≤ 3 ∧ Hid (Dk w1.heap.size p w1 G (qn q j) wr ∧ Fb G wr nb (.cells #[.string (S [97]), .string (S [98]), .string (S [99])] 34))) (fun i _ => 3 - (intOf i).toNat)
  case atStart => exact ⟨0, G0, rfl, by omega, HN0⟩
  case round =>
    obtain ⟨j, G, rfl, hj3, HR⟩ := hrel
    by_cases hlt : j < 3
    · have hcell : wr.cell? ⟨nb, j, none⟩ = some (.string (S (nmQ j))) := by
        refine cell_of_block HR.out.2.1 j _ ?_
        have : j = 0 ∨ j = 1 ∨ j = 2 := by omega
        rcases this with rfl | rfl | rfl <;> rfl
      have KC := k_create HR.out.1 (by show (j : Int) < 1000000000; omega) (nmQ j) (by unfold nmQ; simp)
      rw [qn_create _ _ hlt] at KC
      have HKC := Lib.hid KC
      have HFB := Lib.hid HR.out.2
      have hlti : (j : Int) < 3 := by omega
      clear KC HR
      go_wp2_with fail
      refine HKC.out.mono ?_
      rintro e w5 ⟨rfl, G', hk, ht⟩
      have HK5 := Lib.hid hk
      have HFB5 := Lib.hid (HFB.out.tr ht)
      clear hk ht hcell HKC
      go_wp2_with fail
      go_roundw
      case rel => exact ⟨j + 1, G', by go_num, by omega, Lib.hid ⟨HK5.out, HFB5.out⟩⟩
      case measure => simp [intOf]; omega
    · have hj3e : j = 3 := by omega
      have hlti : ¬ (j : Int) < 3 := by omega
      rw [hj3e] at HR
      clear hj3e
      have HB3 := Lib.hid (HB1.out.trans (HR.out.1.bel.mono HB1.out.size))
      go_wp2_with fail
      clear hlti hlt hj3
      go_loopw [8, 10] (fun u8 i wr => ∃ (t u a b c : Nat) (G : DG), u8 = .int .i64 (u : Int) ∧ i = .int .i64 (t : Int) ∧ t ≤ xs.length ∧ u ≤ q ∧ Hid (a + b + c = u ∧ Dk w1.heap.size p w1 G (qd q a b c (3 + t)) wr ∧ Fb G wr nb (.cells #[.string (S [97]), .string (S [98]), .string (S [99])] 34))) (fun _ i _ => xs.length - (intOf i).toNat)
      case atStart => exact ⟨0, 0, 0, 0, 0, G, rfl, rfl, Nat.zero_le _, Nat.zero_le _, Lib.hid ⟨rfl, HR.out.1, HR.out.2⟩⟩
      case round =>
        obtain ⟨t, u, a, b, c, G5, rfl, rfl, htl, huq, HS⟩ := hrel
        by_cases hlt2 : t < xs.length
        · have hvr := HV.out.below (HB1.out.trans (HS.out.2.1.bel.mono HB1.out.size))
          obtain ⟨A', c', he, hc', hrr⟩ := hvr
          injection he with e1 e2 e3
          obtain ⟨ad, hA, hcell⟩ := hrr.2.2 (by omega)
          rw [← e1] at hA
          have hcl := hcell t hlt2
          have hxb := hby (xs.getD t 0) (by rw [List.getD_eq_getElem?_getD, List.getElem?_eq_getElem hlt2]; exact List.getElem_mem hlt2)
          obtain ⟨n, hn⟩ : ∃ n : Nat, xs.getD t 0 = (n : Int) := ⟨(xs.getD t 0).toNat, by omega⟩
          rw [hn] at hcl hxb
          have hn2 : n ≤ 255 := by omega
          have hix : ∀ W, (Instr.indexAt 27 (.slice A xs.length cp) (.int .i64 (t : Int))).run Try.prog W = .ok (.pointer (some (ad.add t))) W := fun W => by
            rw [hA]
            have h2 : 0 ≤ (t : Int) ∧ (t : Int) < (xs.length : Int) := ⟨by omega, by omega⟩
            go_simp
          obtain ⟨r3, hr3⟩ : ∃ r3, t % 3 = r3 := ⟨_, rfl⟩
          have hr30 : r3 < 3 := by omega
          have hrm : (t : Int).tmod 3 = (r3 : Int) := by rw [← hr3]; rfl
          have hl60 := HL60.out
          have hti : (t : Int) < (xs.length : Int) := by omega
          have hr3i : (r3 : Int) < 3 := by omega
          have hstep : ((3 + t : Nat) : Int) < 1000000000 := by omega
          have HAB := Lib.hid HS.out.1
          have HKs := Lib.hid HS.out.2.1
          have HFs := Lib.hid HS.out.2.2
          clear e1 e3 hc' hrr hA hcell hn hr3 HS
          go_wp2_with fail
          have hqd := qd_append q a b c (3 + t) r3 n hr30 (by omega) (by rw [HAB.out]; omega) hn2
          rw [HAB.out] at hqd
          have hmk : ∀ W : World, (Instr.makeSlice 27 (.int .i64 (n : Int)) (.int .i64 (n : Int))).run Try.prog W = .ok (.slice (some ⟨W.heap.size, 0, none⟩) n n) (W.alloc (.cells (madeCells #[.int .u8 0] n) 5)) :=
            print_make 27 5 .u8 1 Try.underlying27 info8 (by omega) n (by omega)
          have hBd := (Below.refl wr.heap.size wr).drew
          have HKd := Lib.hid (HKs.out.below hBd)
          have HFd := Lib.hid (HFs.out.below hBd)
          have hsz5 : w1.heap.size ≤ wr.drew.heap.size := HKd.out.bel.size
          have SC : ∀ W G', Fb G' W nb (.cells #[.string (S [97]), .string (S [98]), .string (S [99])] 34) → W.cell? ⟨nb, r3, none⟩ = some (.string (S (nmQ r3))) := fun W G' h => by
            refine cell_of_block h.1 r3 _ ?_
            have : r3 = 0 ∨ r3 = 1 ∨ r3 = 2 := by omega
            rcases this with rfl | rfl | rfl <;> rfl
          clear HKs HFs hcl hix
          refine wp_region_noPanic ?_
          refine wp_region_held_drew (S := fun W => W.cell? ⟨nb, r3, none⟩ = some (.string (S (nmQ r3)))) (by kernel_rfl) (SC _ _ HFd.out) (fun hHeld => ?_)
          generalize wr.drew = Y5 at *
          have hBm := (Below.refl Y5.heap.size Y5).alloc (Nat.le_refl _) (.cells (madeCells #[.int .u8 0] n) 5)
          have hown := own_made Y5 Y5.heap.size 5 .u8 n (Nat.le_refl _) (by omega)
          have hrd : RdB (Y5.alloc (.cells (madeCells #[.int .u8 0] n) 5)) (.slice (some ⟨Y5.heap.size, 0, none⟩) n n) (List.replicate n 0) := by
            have : OwnB (Y5.alloc (.cells (madeCells #[.int .u8 0] n) 5)) Y5.heap.size (.slice (some ⟨Y5.heap.size, 0, none⟩) n n) (List.replicate n 0) := by
              unfold OwnB
              rw [List.length_replicate]
              exact hown
            exact this.rd
          have KA := k_append (HKd.out.below hBm) hstep (nmQ r3) (by unfold nmQ; simp) (List.replicate n 0) (by_zeros n) _ hrd (Far.new HKd.out.at_) (by show -9223372036854775808 ≤ (q : Int) ∧ (q : Int) < 9223372036854775808; omega)
          rw [hqd] at KA
          have HFm := Lib.hid (HFd.out.below hBm)
          clear hBm hown hrd hBd hqd
          by_cases hc : (u : Int) + (n : Int) ≤ (q : Int)
          · rw [if_pos hc] at KA
            clear HFd HKd
            have HKA := Lib.hid KA
            clear KA
            refine held_take (i := 0) (v := ?_) rfl (by kernel_rfl) (by kernel_rfl) (by kernel_rfl) (fun _ _ _ h => h) (by rfl) hHeld ?y18_0 ?_
            case y18_0 => (intro w hSw; (try dsimp only at hSw); go_simp; try with_reducible rfl)
            try simp only [Act.put, List.setIfInBounds_toArray, List.set_cons_zero, List.set_cons_succ]
            refine held_take (i := 1) (v := ?_) rfl (by kernel_rfl) (by kernel_rfl) (by kernel_rfl) (fun _ _ _ h => h) (by rfl) hHeld ?y18_1 ?_
            case y18_1 => (intro w hSw; (try dsimp only at hSw); go_simp; try with_reducible rfl)
            try simp only [Act.put, List.setIfInBounds_toArray, List.set_cons_zero, List.set_cons_succ]
            refine held_take (i := 2) (v := ?_) rfl (by kernel_rfl) (by kernel_rfl) (by kernel_rfl) (fun _ _ _ h => h) (by rfl) hHeld ?y18_2 ?_
            case y18_2 => (intro w hSw; (try dsimp only at hSw); go_simp; try with_reducible rfl)
            try simp only [Act.put, List.setIfInBounds_toArray, List.set_cons_zero, List.set_cons_succ]
            refine held_take (i := 3) (v := ?_) rfl (by kernel_rfl) (by kernel_rfl) (by kernel_rfl) (fun _ _ _ h => h) (by rfl) hHeld ?y18_3 ?_
            case y18_3 => (intro w hSw; (try dsimp only at hSw); go_simp; try with_reducible rfl)
            try simp only [Act.put, List.setIfInBounds_toArray, List.set_cons_zero, List.set_cons_succ]
            refine held_take (i := 4) (v := ?_) rfl (by kernel_rfl) (by kernel_rfl) (by kernel_rfl) (fun _ _ _ h => h) (by rfl) hHeld ?y18_4 ?_
            case y18_4 => (intro w hSw; (try dsimp only at hSw); go_simp; try with_reducible rfl)
            try simp only [Act.put, List.setIfInBounds_toArray, List.set_cons_zero, List.set_cons_succ]
            refine held_take (i := 5) (v := ?_) rfl (by kernel_rfl) (by kernel_rfl) (by kernel_rfl) (fun _ _ _ h => h) (by rfl) hHeld ?y18_5 ?_
            case y18_5 => (intro w hSw; (try dsimp only at hSw); go_simp; try with_reducible rfl)
            try simp only [Act.put, List.setIfInBounds_toArray, List.set_cons_zero, List.set_cons_succ]
            refine held_one (i := 6) (by kernel_rfl) rfl (fun K hK => ?_)
            (have hS6 := SC _ _ HFm.out; go_simp)
            refine hK.out _ _ ?_ (fun hHeld => ?_)
            · exact hS6
            clear hK K
            try simp only [Act.put, List.setIfInBounds_toArray, List.set_cons_zero, List.set_cons_succ]
            refine held_one (i := 7) (by kernel_rfl) rfl (fun K hK => ?_)
            (refine step_call (by rfl) _ _ (by rfl) Try.func17 (by kernel_rfl) (by kernel_rfl) (by simp only [List.map_toArray, List.map_cons, List.map_nil]; rfl) (HKA.out.mono ?_); rintro e Y6 ⟨rfl, G6, hk, ht⟩; have hfb := HFm.out.tr ht; have hS7 := SC _ _ hfb; refine ⟨_, rfl, ?_⟩)
            refine hK.out _ _ ?_ (fun hHeld => ?_)
            · exact hS7
            clear hK K
            try simp only [Act.put, List.setIfInBounds_toArray, List.set_cons_zero, List.set_cons_succ]
            refine held_take (i := 8) (v := ?_) rfl (by kernel_rfl) (by kernel_rfl) (by kernel_rfl) (fun _ _ _ h => h) (by rfl) hHeld ?y18_8 ?_
            case y18_8 => (intro w hSw; (try dsimp only at hSw); go_simp; try with_reducible rfl)
            try simp only [Act.put, List.setIfInBounds_toArray, List.set_cons_zero, List.set_cons_succ]
            refine wpAnyH_done (by kernel_rfl) ?_ _
            refine NoPanic.normal ?_
            have HF6 := Lib.hid hfb
            clear hfb hS7 ht HFm HKA SC hHeld hmk hS6
            obtain ⟨a', b', c', hqa, habc⟩ := qdA_qd q a b c (3 + t + 1) r3 n hr30
            rw [hqa] at hk
            have HAB2 : Hid (a' + b' + c' = u + n) := Lib.hid (by rw [habc, HAB.out])
            have HK6 := Lib.hid hk
            have KU := k_used hk
            rw [qd_usedOut, HAB2.out] at KU
            have HKU := Lib.hid KU
            have hun : IntKind.i64.wrap ((u : Int) + (n : Int)) = ((u + n : Nat) : Int) := by rw [wrap_small _ (by omega) (by omega)]; omega
            have hle : ((u + n : Nat) : Int) ≤ (q : Int) := by omega
            clear hk hqa habc KU
            obtain ⟨un, hunn⟩ : ∃ un, u + n = un := ⟨_, rfl⟩
            rw [hunn] at hun hle HKU HAB2
            have hgt : ¬ (q : Int) < (un : Int) := by omega
            have hle2 : un ≤ q := by omega
            have hgt2 : ¬ q < un := by omega
            have hun2 : (u : Int) + (n : Int) = (un : Int) := by omega
            go_wp2_with fail
            refine HKU.out.mono ?_
            rintro e Y7 ⟨rfl, hk, hb7⟩
            have HK7 := Lib.hid hk
            have HF7 := Lib.hid (HF6.out.below hb7)
            clear hk hb7 HKU HF6 HK6
            go_wp2_with fail
            go_roundw
            case rel => exact ⟨t + 1, un, a', b', c', G6, rfl, by go_num, by omega, by omega, Lib.hid ⟨HAB2.out, HK7.out, HF7.out⟩⟩
            case measure => simp [intOf]; omega
          · rw [if_neg hc] at KA
            clear HFd HKd
            have HKA := Lib.hid KA
            clear KA
            refine held_take (i := 0) (v := ?_) rfl (by kernel_rfl) (by kernel_rfl) (by kernel_rfl) (fun _ _ _ h => h) (by rfl) hHeld ?y18_0 ?_
            case y18_0 => (intro w hSw; (try dsimp only at hSw); go_simp; try with_reducible rfl)
            try simp only [Act.put, List.setIfInBounds_toArray, List.set_cons_zero, List.set_cons_succ]
            refine held_take (i := 1) (v := ?_) rfl (by kernel_rfl) (by kernel_rfl) (by kernel_rfl) (fun _ _ _ h => h) (by rfl) hHeld ?y18_1 ?_
            case y18_1 => (intro w hSw; (try dsimp only at hSw); go_simp; try with_reducible rfl)
            try simp only [Act.put, List.setIfInBounds_toArray, List.set_cons_zero, List.set_cons_succ]
            refine held_take (i := 2) (v := ?_) rfl (by kernel_rfl) (by kernel_rfl) (by kernel_rfl) (fun _ _ _ h => h) (by rfl) hHeld ?y18_2 ?_
            case y18_2 => (intro w hSw; (try dsimp only at hSw); go_simp; try with_reducible rfl)
            try simp only [Act.put, List.setIfInBounds_toArray, List.set_cons_zero, List.set_cons_succ]
            refine held_take (i := 3) (v := ?_) rfl (by kernel_rfl) (by kernel_rfl) (by kernel_rfl) (fun _ _ _ h => h) (by rfl) hHeld ?y18_3 ?_
            case y18_3 => (intro w hSw; (try dsimp only at hSw); go_simp; try with_reducible rfl)
            try simp only [Act.put, List.setIfInBounds_toArray, List.set_cons_zero, List.set_cons_succ]
            refine held_take (i := 4) (v := ?_) rfl (by kernel_rfl) (by kernel_rfl) (by kernel_rfl) (fun _ _ _ h => h) (by rfl) hHeld ?y18_4 ?_
            case y18_4 => (intro w hSw; (try dsimp only at hSw); go_simp; try with_reducible rfl)
            try simp only [Act.put, List.setIfInBounds_toArray, List.set_cons_zero, List.set_cons_succ]
            refine held_take (i := 5) (v := ?_) rfl (by kernel_rfl) (by kernel_rfl) (by kernel_rfl) (fun _ _ _ h => h) (by rfl) hHeld ?y18_5 ?_
            case y18_5 => (intro w hSw; (try dsimp only at hSw); go_simp; try with_reducible rfl)
            try simp only [Act.put, List.setIfInBounds_toArray, List.set_cons_zero, List.set_cons_succ]
            refine held_one (i := 6) (by kernel_rfl) rfl (fun K hK => ?_)
            (have hS6 := SC _ _ HFm.out; go_simp)
            refine hK.out _ _ ?_ (fun hHeld => ?_)
            · exact hS6
            clear hK K
            try simp only [Act.put, List.setIfInBounds_toArray, List.set_cons_zero, List.set_cons_succ]
            refine held_one (i := 7) (by kernel_rfl) rfl (fun K hK => ?_)
            (refine step_call (by rfl) _ _ (by rfl) Try.func17 (by kernel_rfl) (by kernel_rfl) (by simp only [List.map_toArray, List.map_cons, List.map_nil]; rfl) (HKA.out.mono ?_); rintro e Y6 ⟨rfl, G6, hk, ht⟩; have hfb := HFm.out.tr ht; have hS7 := SC _ _ hfb; refine ⟨_, rfl, ?_⟩)
            refine hK.out _ _ ?_ (fun hHeld => ?_)
            · exact hS7
            clear hK K
            try simp only [Act.put, List.setIfInBounds_toArray, List.set_cons_zero, List.set_cons_succ]
            refine held_take (i := 8) (v := ?_) rfl (by kernel_rfl) (by kernel_rfl) (by kernel_rfl) (fun _ _ _ h => h) (by rfl) hHeld ?y18_8 ?_
            case y18_8 => (intro w hSw; (try dsimp only at hSw); go_simp; try with_reducible rfl)
            try simp only [Act.put, List.setIfInBounds_toArray, List.set_cons_zero, List.set_cons_succ]
            refine wpAnyH_done (by kernel_rfl) ?_ _
            refine NoPanic.normal ?_
            have HF6 := Lib.hid hfb
            clear hfb hS7 ht HFm HKA SC hHeld hmk hS6
            have HK6 := Lib.hid hk
            have KU := k_used hk
            rw [qd_usedOut, HAB.out] at KU
            have HKU := Lib.hid KU
            have hun : IntKind.i64.wrap ((u : Int) + (n : Int)) = ((u + n : Nat) : Int) := by rw [wrap_small _ (by omega) (by omega)]; omega
            clear hk KU
            obtain ⟨un, hunn⟩ : ∃ un, u + n = un := ⟨_, rfl⟩
            rw [hunn] at hun
            have hle : ¬ (un : Int) ≤ (q : Int) := by omega
            have hgt : ¬ (q : Int) < (u : Int) := by omega
            have hle2 : ¬ un ≤ q := by omega
            have hgt2 : ¬ q < u := by omega
            have hun2 : (u : Int) + (n : Int) = (un : Int) := by omega
            go_wp2_with fail
            refine HKU.out.mono ?_
            rintro e Y7 ⟨rfl, hk, hb7⟩
            have HK7 := Lib.hid hk
            have HF7 := Lib.hid (HF6.out.below hb7)
            clear hk hb7 HKU HF6 HK6
            go_wp2_with fail
            go_roundw
            case rel => exact ⟨t + 1, u, a, b, c, G6, rfl, by go_num, by omega, by omega, Lib.hid ⟨HAB.out, HK7.out, HF7.out⟩⟩
            case measure => simp [intOf]; omega
        · obtain rfl : t = xs.length := by omega
          have hl60 := HL60.out
          have HK3 := Lib.hid HS.out.2.1
          have HAB := Lib.hid HS.out.1
          have hstep : ((3 + xs.length : Nat) : Int) < 1000000000 := by omega
          have KR := k_read HK3.out [97] (by decide)
          rw [qd_read] at KR
          have HKR := Lib.hid KR
          obtain ⟨rm1, rm2, rm3⟩ := qd_remove q a b c (3 + xs.length)
          clear KR HS
          go_wp2_with fail
          refine HKR.out.mono ?_
          rintro e Y5 ⟨v5, rfl, ho5, hk, -⟩
          obtain ⟨A5, c5, hv5, -⟩ := own_shape ho5
          rw [List.length_replicate] at hv5
          subst hv5
          have KM := Lib.hid (k_remove hk hstep [97] (by decide))
          rw [rm1] at KM
          clear hk ho5 HKR HK3
          generalize (qd q a b c (3 + xs.length)).remove [97] = d6 at *
          go_wp2_with fail
          refine KM.out.mono ?_
          rintro e Y6 ⟨rfl, G6, hk, -⟩
          have KU := Lib.hid (k_used hk)
          rw [rm2] at KU
          clear hk KM
          have hsub : IntKind.i64.wrap ((u : Int) - (a : Int)) = ((b + c : Nat) : Int) := by have := HAB.out; rw [wrap_small _ (by omega) (by omega)]; omega
          have hsub2 : (u : Int) - (a : Int) = ((b + c : Nat) : Int) := by have := HAB.out; omega
          obtain ⟨bc, hbc⟩ : ∃ bc, b + c = bc := ⟨_, rfl⟩
          rw [hbc] at hsub hsub2 KU
          have HBC : Hid ((bc : Int) ≤ 2000) := Lib.hid (by have := HAB.out; omega)
          clear hbc
          go_wp2_with fail
          refine KU.out.mono ?_
          rintro e Y7 ⟨rfl, hk, -⟩
          have KS := Lib.hid (k_steps hk)
          rw [rm3] at KS
          have HBE := Lib.hid (HB1.out.trans (hk.bel.mono HB1.out.size))
          clear hk KU
          have hst4 : ((3 + xs.length : Nat) : Int) + 1 = 4 + (xs.length : Int) := by omega
          rw [hst4] at KS
          clear hst4
          go_wp2_with fail
          refine KS.out.mono ?_
          rintro e Y8 ⟨rfl, rfl⟩
          go_wp2_with fail
          go_ret
          exact ⟨rfl, HBE.out⟩
end Go.Proofs.Ytbooiaaejhbbkaa
