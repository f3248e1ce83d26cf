import Derived.Test.YtmdecbockpgagaaWalFull
import Derived.Laws.OwnMore
/- hornbooklaw22.WalBounds. -/
namespace Go.Proofs.Ytmdecbockpgagaa
open Go.RowKit Go.Maps Go.Proofs.YtmdecbockpgagaaW.PrintWords Go.Proofs.YtmdecbockpgagaaW.PrintMore
variable {B p lb : Nat} {w0 : World} {G : DG} {d : DS} {w w' : World} {nm : Nm} {ng : Int} {br : Bool}

theorem drew_heap (w : World) : w.drew.heap = w.heap := rfl
theorem held_re {P : Program} {ops : Array Oper} {Q : Exit → Act → World → Prop} {md : Region.Mode} {S S' : World → Prop} {fuel : Nat} {listed : Array Bool} {a : Act} {w : World} (hN : S' w) (hS : ∀ w, S' w → S w)
    (h : ∀ X, S' X → wpAnyH P md ops Q S' fuel listed a X) : wpAnyH P md ops Q S fuel listed a w := held_rebase hS fuel listed a w (h w hN)
abbrev rZ : Array Value := #[.int .u8 0, .string ByteArray.empty, .string ByteArray.empty]
/-- What is held while a record is built of noughts. -/
structure S4 (w1 : World) (vs : List (Nat × Nat)) (rb : List Nat) (W : World) : Prop where
  bel : Below w1.heap.size w1 W
  rd : ∀ p ∈ vs, p.1 < W.heap.size ∧ RdB W (.slice (some ⟨p.1, 0, none⟩) p.2 p.2) (List.replicate p.2 0)
  blk : ∀ b ∈ rb, w1.heap.size ≤ b ∧ ∃ x y z, W.heap[b]? = some (.cells #[x, y, z] 50)
  ne : ∀ p ∈ vs, ∀ b ∈ rb, p.1 ≠ b
variable {w1 W : World} {vs : List (Nat × Nat)} {rb : List Nat}
theorem S4.below (h : S4 w1 vs rb W) {W2 : World} (hb : Below W.heap.size W W2) : S4 w1 vs rb W2 :=
  ⟨h.bel.trans (hb.mono h.bel.size), fun p hp => ⟨Nat.lt_of_lt_of_le (h.rd p hp).1 hb.size, (h.rd p hp).2.below hb⟩, fun b hbm => by
    obtain ⟨h1, x, y, z, h2⟩ := h.blk b hbm
    exact ⟨h1, x, y, z, (hb.block b (Array.getElem?_eq_some_iff.1 h2).1).trans h2⟩, h.ne⟩
theorem S4.lt (h : S4 w1 vs rb W) {b : Nat} (hb : b ∈ rb) : b < W.heap.size := by
  obtain ⟨h1, x, y, z, h2⟩ := h.blk b hb
  exact (Array.getElem?_eq_some_iff.1 h2).1
theorem S4.make (h : S4 w1 vs rb W) (n : Nat) (hn : n ≤ 1000000) : S4 w1 ((W.heap.size, n) :: vs) rb (W.alloc (.cells (madeCells #[.int .u8 0] n) 5)) := by
  have h2 := h.below ((Below.refl W.heap.size W).alloc (Nat.le_refl _) (.cells (madeCells #[.int .u8 0] n) 5))
  refine ⟨h2.bel, fun p hp => ?_, h2.blk, fun p hp b hb => ?_⟩
  · rcases List.mem_cons.1 hp with rfl | hp
    · have hown := own_made W W.heap.size 5 .u8 n (Nat.le_refl _) (by omega)
      have : OwnB (W.alloc (.cells (madeCells #[.int .u8 0] n) 5)) W.heap.size (.slice (some ⟨W.heap.size, 0, none⟩) n n) (List.replicate n 0) := by
        unfold OwnB
        rw [List.length_replicate]
        exact hown
      exact ⟨by simp, this.rd⟩
    · exact h2.rd p hp
  · rcases List.mem_cons.1 hp with rfl | hp
    · have := h.lt hb
      show W.heap.size ≠ b
      omega
    · exact h.ne p hp b hb
theorem S4.newR (h : S4 w1 vs rb W) : S4 w1 vs (W.heap.size :: rb) (W.alloc (.cells rZ 50)) := by
  have h2 := h.below ((Below.refl W.heap.size W).alloc (Nat.le_refl _) (.cells rZ 50))
  refine ⟨h2.bel, h2.rd, fun b hb => ?_, fun p hp b hb => ?_⟩
  · rcases List.mem_cons.1 hb with rfl | hb
    · exact ⟨h.bel.size, _, _, _, alloc_new W _⟩
    · exact h2.blk b hb
  · rcases List.mem_cons.1 hb with rfl | hb
    · have := (h.rd p hp).1
      omega
    · exact h.ne p hp b hb
theorem rec_store {b : Nat} {t : TypeId} (x y z x' y' z' : Value) (h : W.heap[b]? = some (.cells #[x', y', z'] t)) :
    (((W.setCell ⟨b, 0, none⟩ x).setCell ⟨b, 1, none⟩ y).setCell ⟨b, 2, none⟩ z).heap[b]? = some (.cells #[x, y, z] t) := by
  unfold World.setCell
  simp only [Array.getElem?_modify, if_pos, h]
  rfl
theorem set_keeps (a : Addr) (v : Value) (k : Nat) (h : k ≠ a.block) {c : Addr} (hc : c.block = k) : (W.setCell a v).cell? c = W.cell? c := World.cell?_of_block (by rw [hc]; exact Below.heap_setCell W a v k h)
theorem S4.store (h : S4 w1 vs rb W) {b : Nat} (hb : b ∈ rb) (x y z : Value) : S4 w1 vs rb (((W.setCell ⟨b, 0, none⟩ x).setCell ⟨b, 1, none⟩ y).setCell ⟨b, 2, none⟩ z) := by
  obtain ⟨h1, x', y', z', h2⟩ := h.blk b hb
  have hs : (((W.setCell ⟨b, 0, none⟩ x).setCell ⟨b, 1, none⟩ y).setCell ⟨b, 2, none⟩ z).heap.size = W.heap.size := by simp [World.setCell]
  have hot : ∀ k, k ≠ b → (((W.setCell ⟨b, 0, none⟩ x).setCell ⟨b, 1, none⟩ y).setCell ⟨b, 2, none⟩ z).heap[k]? = W.heap[k]? := fun k hk =>
    (Below.heap_setCell _ ⟨b, 2, none⟩ z k hk).trans ((Below.heap_setCell _ ⟨b, 1, none⟩ y k hk).trans (Below.heap_setCell _ ⟨b, 0, none⟩ x k hk))
  refine ⟨((h.bel.setCell (p := ⟨b, 0, none⟩) h1 x).setCell (p := ⟨b, 1, none⟩) h1 y).setCell (p := ⟨b, 2, none⟩) h1 z, fun p hp => ⟨by rw [hs]; exact (h.rd p hp).1, ?_⟩, fun b' hb' => ?_, h.ne⟩
  · obtain ⟨A, c, he, hc, hr1, hr2, hr3⟩ := (h.rd p hp).2
    refine ⟨A, c, he, hc, hr1, hr2, fun h0 => ?_⟩
    obtain ⟨ad, rfl, hcell⟩ := hr3 h0
    refine ⟨ad, rfl, fun j hj => ?_⟩
    injection he with e1
    injection e1 with e1
    have hbk : (ad.add j).block = p.1 := by rw [add_block, ← e1]
    exact (World.cell?_of_block (by rw [hbk]; exact hot _ (h.ne p hp b hb))).trans (hcell j hj)
  · obtain ⟨g1, x2, y2, z2, g2⟩ := h.blk b' hb'
    by_cases e : b' = b
    · subst e
      exact ⟨g1, _, _, _, rec_store x y z _ _ _ g2⟩
    · exact ⟨g1, x2, y2, z2, (hot b' e).trans g2⟩
theorem S4.offV {p : Nat × Nat} (h : S4 w1 (p :: vs) rb W) : S4 w1 vs rb W := ⟨h.bel, fun q hq => h.rd q (List.mem_cons_of_mem _ hq), h.blk, fun q hq => h.ne q (List.mem_cons_of_mem _ hq)⟩
theorem S4.offB {b : Nat} (h : S4 w1 vs (b :: rb) W) : S4 w1 vs rb W := ⟨h.bel, h.rd, fun q hq => h.blk q (List.mem_cons_of_mem _ hq), fun q hq b hb => h.ne q hq b (List.mem_cons_of_mem _ hb)⟩
theorem S4.conv (h : S4 w1 vs rb W) {b n : Nat} (hm : (b, n) ∈ vs) : (convert 22 9 (.slice (some ⟨b, 0, none⟩) n n)).run Try.prog W = .ok (.string (zs n)) W := by
  have hr := (h.rd _ hm).2.reads
  have := conv_bytes_string (P := Try.prog) 22 5 9 Try.underlying22 Try.underlying5 Try.underlying9 hr n
  rw [show strOfNums (List.replicate n 0) = zs n from rfl, List.length_replicate] at this
  exact this
def rc0 : Rc := ⟨2, S [101, 110], ByteArray.empty⟩
theorem flat_len (rs : List Rc) : (rs.flatMap rcC).length = rs.length * 3 := by
  induction rs with
  | nil => rfl
  | cons r rs ih => rw [List.flatMap_cons, List.length_append, ih, List.length_cons]; show 3 + _ = _; omega
theorem flat_set : ∀ (rs : List Rc) (i : Nat) (r : Rc), i < rs.length → (rs.set i r).flatMap rcC = (((rs.flatMap rcC).set (i * 3) (.int .u8 r.kind)).set (i * 3 + 1) (.string r.tag)).set (i * 3 + 2) (.string r.text)
  | [], i, r, h => absurd h (by simp)
  | x :: rs, 0, r, _ => rfl
  | x :: rs, i + 1, r, h => by
    rw [List.set_cons_succ, List.flatMap_cons, List.flatMap_cons, flat_set rs i r (by simpa using h)]
    have hl : (rcC x).length = 3 := rfl
    rw [List.set_append_right _ _ (by omega), List.set_append_right _ _ (by omega), List.set_append_right _ _ (by omega), hl]
    rw [show (i + 1) * 3 - 3 = i * 3 by omega, show (i + 1) * 3 + 1 - 3 = i * 3 + 1 by omega, show (i + 1) * 3 + 2 - 3 = i * 3 + 2 by omega]
theorem own_put {base g n cap : Nat} {rs : List Rc} (h : W.ownsRow base 50 3 (.slice (some ⟨g, 0, none⟩) n cap) n (rs.flatMap rcC)) (hn : rs.length = n) (i : Nat) (hi : i < n) (r : Rc) :
    (((W.setCell ⟨g, i * 3, none⟩ (.int .u8 r.kind)).setCell ⟨g, i * 3 + 1, none⟩ (.string r.tag)).setCell ⟨g, i * 3 + 2, none⟩ (.string r.text)).ownsRow base 50 3 (.slice (some ⟨g, 0, none⟩) n cap) n ((rs.set i r).flatMap rcC) := by
  rw [flat_set rs i r (by omega)]
  exact (((h.stored _ _).1.stored _ _).1.stored _ _).1
theorem enc_max {l : List Rc} (h : groupB l = true) : (encG l).length ≤ 41070 := by
  have h1 := recs_len l (groupB_all h)
  have h2 := groupB_len h
  rw [encG_yes h, List.length_append, frameB_length]
  simp
  omega
theorem enc_min {l : List Rc} (h : groupB l = true) : 10 ≤ (encG l).length := by
  rw [encG_yes h, List.length_append, frameB_length]
  simp
theorem groupB_put (k : Nat) (r : Rc) (i : Nat) (hi : i < k) : groupB ((List.replicate k rc0).set i r) = (decide (k ≤ 20) && rightB r) := by
  have h0 : rightB rc0 = true := by decide +kernel
  have hall : ((List.replicate k rc0).set i r).all rightB = rightB r := by
    cases hr : rightB r with
    | false =>
      rw [List.all_eq_false]
      have : ((List.replicate k rc0).set i r)[i]? = some r := by rw [List.getElem?_set]; simp [hi]
      exact ⟨r, List.mem_of_getElem? this, by rw [hr]; decide⟩
    | true =>
      rw [List.all_eq_true]
      intro x hx
      rcases List.mem_or_eq_of_mem_set hx with hx | rfl
      · rw [List.eq_of_mem_replicate hx]; exact h0
      · exact hr
  unfold groupB
  rw [hall, List.length_set, List.length_replicate, decide_eq_true (show 1 ≤ k by omega)]
  cases rightB r <;> simp
set_option maxRecDepth 100000 in
set_option maxHeartbeats 4000000 in
theorem walBounds_walk (a b c t : Int) (w : World) (ha : 0 ≤ a ∧ a < 256) (hb : 0 ≤ b ∧ b < 256) (hc : 0 ≤ c ∧ c < 65536) (ht : 0 ≤ t ∧ t < 256) :
    Calls Try.prog 6 #[.int .u8 a, .int .u8 b, .int .u16 c, .int .u8 t] w fun e w' => e = .returned (.bool true) ∧ Below w.heap.size w w' := by
  obtain ⟨i0, hi, hz0, hz1, hz2⟩ := info_parts infoRc
  have K0 := Lib.hid (law22_known w)
  obtain ⟨k, hk⟩ : ∃ k : Nat, a % 26 = (k : Int) := ⟨(a % 26).toNat, by omega⟩
  obtain ⟨kd, hkd⟩ : ∃ k : Int, b % 5 = k := ⟨_, rfl⟩
  obtain ⟨n, hn⟩ : ∃ k : Nat, t % 60 = (k : Int) := ⟨(t % 60).toNat, by omega⟩
  obtain ⟨m, hm⟩ : ∃ k : Nat, c % 2300 = (k : Int) := ⟨(c % 2300).toNat, by omega⟩
  have hk26 : k < 26 := by omega
  have hkd5 : 0 ≤ kd ∧ kd < 5 := by omega
  have hn60 : n < 60 := by omega
  have hm23 : m < 2300 := by omega
  have hbt : b.tmod 5 = kd := by rw [Int.tmod_eq_emod_of_nonneg (by omega)]; exact hkd
  have htt : t.tmod 60 = (n : Int) := by rw [Int.tmod_eq_emod_of_nonneg (by omega)]; exact hn
  have hct : c.tmod 2300 = (m : Int) := by rw [Int.tmod_eq_emod_of_nonneg (by omega)]; exact hm
  go_enter Try.func6, Try.ntmps6
  go_wp2_with fail
  refine K0.out.mono ?_
  rintro e w1 ⟨rfl, hb1⟩
  have HB1 := Lib.hid hb1
  clear hb1 K0
  go_upto_region 4 with fail
  go_cut [10] (fun s10 wx => ∃ b : Nat, s10 = .pointer (some ⟨b, 0, none⟩) ∧ w1.heap.size ≤ b ∧ wx.heap[b]? = some (.cells #[.int .u8 kd, .string (zs n), .string (zs m)] 50) ∧ Below w1.heap.size w1 wx)
  case first =>
    have hmk1 : ∀ W : World, (Instr.makeSlice 22 (.int .i64 (n : Int)) (.int .i64 (n : Int))).run Try.prog W = .ok (.slice (some ⟨W.heap.size, 0, none⟩) n n) (W.alloc (.cells (madeCells #[.int .u8 0] n) 5)) :=
      print_make 22 5 .u8 1 Try.underlying22 info8 (by omega) n (by omega)
    have hmk2 : ∀ W : World, (Instr.makeSlice 22 (.int .i64 (m : Int)) (.int .i64 (m : Int))).run Try.prog W = .ok (.slice (some ⟨W.heap.size, 0, none⟩) m m) (W.alloc (.cells (madeCells #[.int .u8 0] m) 5)) :=
      print_make 22 5 .u8 1 Try.underlying22 info8 (by omega) m (by omega)
    have hwn : IntKind.i64.wrap (n : Int) = (n : Int) := wrap_small _ (by omega) (by omega)
    have hwm : IntKind.i64.wrap (m : Int) = (m : Int) := wrap_small _ (by omega) (by omega)
    have H0 : S4 w1 [] [] w1.drew := ⟨(Below.refl _ w1).drew, fun p hp => by simp at hp, fun b hb => by simp at hb, fun p hp => by simp at hp⟩
    refine wp_region_noPanic ?_
    refine wp_region_held_drew (S := S4 w1 [] []) (by kernel_rfl) H0 (fun hHeld => ?_)
    refine held_take (i := 0) (v := ?_) rfl (by kernel_rfl) (by kernel_rfl) (by kernel_rfl) (fun _ _ _ h => h) (by rfl) hHeld ?y4_0 ?_
    case y4_0 => (intro w hSw; (try dsimp only at hSw); go_simp; try with_reducible rfl)
    try simp only [Act.put, List.setIfInBounds_toArray, List.set_cons_zero, List.set_cons_succ]
    refine held_take (i := 1) (v := ?_) rfl (by kernel_rfl) (by kernel_rfl) (by kernel_rfl) (fun _ _ _ h => h) (by rfl) hHeld ?y4_1 ?_
    case y4_1 => (intro w hSw; (try dsimp only at hSw); go_simp; try with_reducible rfl)
    try simp only [Act.put, List.setIfInBounds_toArray, List.set_cons_zero, List.set_cons_succ]
    refine held_take (i := 2) (v := ?_) rfl (by kernel_rfl) (by kernel_rfl) (by kernel_rfl) (fun _ _ _ h => h) (by rfl) hHeld ?y4_2 ?_
    case y4_2 => (intro w hSw; (try dsimp only at hSw); go_simp; try with_reducible rfl)
    try simp only [Act.put, List.setIfInBounds_toArray, List.set_cons_zero, List.set_cons_succ]
    refine held_take (i := 3) (v := ?_) rfl (by kernel_rfl) (by kernel_rfl) (by kernel_rfl) (fun _ _ _ h => h) (by rfl) hHeld ?y4_3 ?_
    case y4_3 => (intro w hSw; (try dsimp only at hSw); go_simp; try with_reducible rfl)
    try simp only [Act.put, List.setIfInBounds_toArray, List.set_cons_zero, List.set_cons_succ]
    refine held_take (i := 4) (v := ?_) rfl (by kernel_rfl) (by kernel_rfl) (by kernel_rfl) (fun _ _ _ h => h) (by rfl) hHeld ?y4_4 ?_
    case y4_4 => (intro w hSw; (try dsimp only at hSw); go_simp; try with_reducible rfl)
    try simp only [Act.put, List.setIfInBounds_toArray, List.set_cons_zero, List.set_cons_succ]
    refine held_take (i := 7) (v := ?_) rfl (by kernel_rfl) (by kernel_rfl) (by kernel_rfl) (fun _ _ _ h => h) (by rfl) hHeld ?y4_7 ?_
    case y4_7 => (intro w hSw; (try dsimp only at hSw); go_simp; try with_reducible rfl)
    try simp only [Act.put, List.setIfInBounds_toArray, List.set_cons_zero, List.set_cons_succ]
    refine held_take (i := 8) (v := ?_) rfl (by kernel_rfl) (by kernel_rfl) (by kernel_rfl) (fun _ _ _ h => h) (by rfl) hHeld ?y4_8 ?_
    case y4_8 => (intro w hSw; (try dsimp only at hSw); go_simp; try with_reducible rfl)
    try simp only [Act.put, List.setIfInBounds_toArray, List.set_cons_zero, List.set_cons_succ]
    refine held_take (i := 9) (v := ?_) rfl (by kernel_rfl) (by kernel_rfl) (by kernel_rfl) (fun _ _ _ h => h) (by rfl) hHeld ?y4_9 ?_
    case y4_9 => (intro w hSw; (try dsimp only at hSw); go_simp; try with_reducible rfl)
    try simp only [Act.put, List.setIfInBounds_toArray, List.set_cons_zero, List.set_cons_succ]
    refine wpAnyH_ready (rs := [5, 10, 13]) (by kernel_rfl) (by simp) ?_
    refine held_cons (i := 5) rfl (fun K hK => ?_) (held_cons (i := 10) rfl (fun K hK => ?_) (held_cons (i := 13) rfl (fun K hK => ?_) AllReadyH.nil))
    · have hN := hHeld.make n (by omega)
      have hS := hN.offV
      go_simp
      refine hK.out _ _ ?_ (fun _ => ?_)
      · exact hS
      clear hK K hS
      try simp only [Act.put, List.setIfInBounds_toArray, List.set_cons_zero, List.set_cons_succ]
      (try simp only [drew_heap] at hN)
      refine held_re hN (fun W h => h.offV) (fun X hHeld => ?_)
      clear hN
      refine held_take (i := 6) (v := .string (zs n)) rfl (by kernel_rfl) (by kernel_rfl) (by kernel_rfl) (fun _ _ _ h => h) (by rfl) hHeld ?z1_6 ?_
      case z1_6 => (intro w hSw; have hcv := hSw.conv List.mem_cons_self; (try simp only [World.size_alloc, drew_heap] at hcv); go_simp)
      try simp only [Act.put, List.setIfInBounds_toArray, List.set_cons_zero, List.set_cons_succ]
      refine wpAnyH_ready (rs := [10, 13]) (by kernel_rfl) (by simp) ?_
      refine held_cons (i := 10) rfl (fun K hK => ?_) (held_cons (i := 13) rfl (fun K hK => ?_) AllReadyH.nil)
      · have hN := hHeld.make m (by omega)
        have hS := hN.offV
        go_simp
        refine hK.out _ _ ?_ (fun _ => ?_)
        · exact hS
        clear hK K hS
        try simp only [Act.put, List.setIfInBounds_toArray, List.set_cons_zero, List.set_cons_succ]
        (try simp only [drew_heap] at hN)
        refine held_re hN (fun W h => h.offV) (fun X hHeld => ?_)
        clear hN
        refine held_take (i := 11) (v := .string (zs m)) rfl (by kernel_rfl) (by kernel_rfl) (by kernel_rfl) (fun _ _ _ h => h) (by rfl) hHeld ?z2_11 ?_
        case z2_11 => (intro w hSw; have hcv := hSw.conv List.mem_cons_self; (try simp only [World.size_alloc, drew_heap] at hcv); go_simp)
        try simp only [Act.put, List.setIfInBounds_toArray, List.set_cons_zero, List.set_cons_succ]
        refine held_take (i := 12) (v := ?_) rfl (by kernel_rfl) (by kernel_rfl) (by kernel_rfl) (fun _ _ _ h => h) (by rfl) hHeld ?y4_12_3 ?_
        case y4_12_3 => (intro w hSw; (try dsimp only at hSw); go_simp; try with_reducible rfl)
        try simp only [Act.put, List.setIfInBounds_toArray, List.set_cons_zero, List.set_cons_succ]
        refine held_one (i := 13) (by kernel_rfl) rfl (fun K hK => ?_)
        have hN := hHeld.newR
        have hS := hN.offB
        go_simp
        refine hK.out _ _ ?_ (fun _ => ?_)
        · exact hS
        clear hK K hS
        try simp only [Act.put, List.setIfInBounds_toArray, List.set_cons_zero, List.set_cons_succ]
        (try simp only [drew_heap] at hN)
        refine held_re hN (fun W h => h.offB) (fun X hHeld => ?_)
        clear hN
        refine held_one (i := 14) (by kernel_rfl) rfl (fun K hK => ?_)
        obtain ⟨hbb, zx, zy, zz, hbz⟩ := hHeld.blk _ List.mem_cons_self
        have hc0 := cells_blk hbz 0 zx rfl
        have hc1 := cells_blk hbz 1 zy rfl
        have hc2 := cells_blk hbz 2 zz rfl
        have hfz : ∀ j, World.frozen? _ ⟨_, j, none⟩ = false := fun j => by unfold World.frozen?; rw [hbz]; simp
        have hf0 := hfz 0
        have hf1 := hfz 1
        have hf2 := hfz 2
        clear hfz
        have hst := rec_store (.int .u8 kd) (.string (zs n)) (.string (zs m)) _ _ _ hbz
        have hS14 := hHeld.store List.mem_cons_self (.int .u8 kd) (.string (zs n)) (.string (zs m))
        go_simp
        refine hK.out _ _ ?_ (fun _ => ?_)
        · exact hS14
        clear hK K
        refine wpAnyH_done (by kernel_rfl) ?_ _
        refine NoPanic.normal ?_
        go_wp2_with fail
        go_meet
        exact ⟨_, rfl, hbb, hst, hS14.bel⟩
      · have hN := hHeld.newR
        have hS := hN.offB
        go_simp
        refine hK.out _ _ ?_ (fun _ => ?_)
        · exact hS
        clear hK K hS
        try simp only [Act.put, List.setIfInBounds_toArray, List.set_cons_zero, List.set_cons_succ]
        (try simp only [drew_heap] at hN)
        refine held_re hN (fun W h => h.offB) (fun X hHeld => ?_)
        clear hN
        refine held_one (i := 10) (by kernel_rfl) rfl (fun K hK => ?_)
        have hN := hHeld.make m (by omega)
        have hS := hN.offV
        go_simp
        refine hK.out _ _ ?_ (fun _ => ?_)
        · exact hS
        clear hK K hS
        try simp only [Act.put, List.setIfInBounds_toArray, List.set_cons_zero, List.set_cons_succ]
        (try simp only [drew_heap] at hN)
        refine held_re hN (fun W h => h.offV) (fun X hHeld => ?_)
        clear hN
        refine held_take (i := 11) (v := .string (zs m)) rfl (by kernel_rfl) (by kernel_rfl) (by kernel_rfl) (fun _ _ _ h => h) (by rfl) hHeld ?z4_11 ?_
        case z4_11 => (intro w hSw; have hcv := hSw.conv List.mem_cons_self; (try simp only [World.size_alloc, drew_heap] at hcv); go_simp)
        try simp only [Act.put, List.setIfInBounds_toArray, List.set_cons_zero, List.set_cons_succ]
        refine held_take (i := 12) (v := ?_) rfl (by kernel_rfl) (by kernel_rfl) (by kernel_rfl) (fun _ _ _ h => h) (by rfl) hHeld ?y4_12_5 ?_
        case y4_12_5 => (intro w hSw; (try dsimp only at hSw); go_simp; try with_reducible rfl)
        try simp only [Act.put, List.setIfInBounds_toArray, List.set_cons_zero, List.set_cons_succ]
        refine held_one (i := 14) (by kernel_rfl) rfl (fun K hK => ?_)
        obtain ⟨hbb, zx, zy, zz, hbz⟩ := hHeld.blk _ List.mem_cons_self
        have hc0 := cells_blk hbz 0 zx rfl
        have hc1 := cells_blk hbz 1 zy rfl
        have hc2 := cells_blk hbz 2 zz rfl
        have hfz : ∀ j, World.frozen? _ ⟨_, j, none⟩ = false := fun j => by unfold World.frozen?; rw [hbz]; simp
        have hf0 := hfz 0
        have hf1 := hfz 1
        have hf2 := hfz 2
        clear hfz
        have hst := rec_store (.int .u8 kd) (.string (zs n)) (.string (zs m)) _ _ _ hbz
        have hS14 := hHeld.store List.mem_cons_self (.int .u8 kd) (.string (zs n)) (.string (zs m))
        go_simp
        refine hK.out _ _ ?_ (fun _ => ?_)
        · exact hS14
        clear hK K
        refine wpAnyH_done (by kernel_rfl) ?_ _
        refine NoPanic.normal ?_
        go_wp2_with fail
        go_meet
        exact ⟨_, rfl, hbb, hst, hS14.bel⟩
    · have hN := hHeld.make m (by omega)
      have hS := hN.offV
      go_simp
      refine hK.out _ _ ?_ (fun _ => ?_)
      · exact hS
      clear hK K hS
      try simp only [Act.put, List.setIfInBounds_toArray, List.set_cons_zero, List.set_cons_succ]
      (try simp only [drew_heap] at hN)
      refine held_re hN (fun W h => h.offV) (fun X hHeld => ?_)
      clear hN
      refine held_take (i := 11) (v := .string (zs m)) rfl (by kernel_rfl) (by kernel_rfl) (by kernel_rfl) (fun _ _ _ h => h) (by rfl) hHeld ?z6_11 ?_
      case z6_11 => (intro w hSw; have hcv := hSw.conv List.mem_cons_self; (try simp only [World.size_alloc, drew_heap] at hcv); go_simp)
      try simp only [Act.put, List.setIfInBounds_toArray, List.set_cons_zero, List.set_cons_succ]
      refine wpAnyH_ready (rs := [5, 13]) (by kernel_rfl) (by simp) ?_
      refine held_cons (i := 5) rfl (fun K hK => ?_) (held_cons (i := 13) rfl (fun K hK => ?_) AllReadyH.nil)
      · have hN := hHeld.make n (by omega)
        have hS := hN.offV
        go_simp
        refine hK.out _ _ ?_ (fun _ => ?_)
        · exact hS
        clear hK K hS
        try simp only [Act.put, List.setIfInBounds_toArray, List.set_cons_zero, List.set_cons_succ]
        (try simp only [drew_heap] at hN)
        refine held_re hN (fun W h => h.offV) (fun X hHeld => ?_)
        clear hN
        refine held_take (i := 6) (v := .string (zs n)) rfl (by kernel_rfl) (by kernel_rfl) (by kernel_rfl) (fun _ _ _ h => h) (by rfl) hHeld ?z7_6 ?_
        case z7_6 => (intro w hSw; have hcv := hSw.conv List.mem_cons_self; (try simp only [World.size_alloc, drew_heap] at hcv); go_simp)
        try simp only [Act.put, List.setIfInBounds_toArray, List.set_cons_zero, List.set_cons_succ]
        refine held_take (i := 12) (v := ?_) rfl (by kernel_rfl) (by kernel_rfl) (by kernel_rfl) (fun _ _ _ h => h) (by rfl) hHeld ?y4_12_8 ?_
        case y4_12_8 => (intro w hSw; (try dsimp only at hSw); go_simp; try with_reducible rfl)
        try simp only [Act.put, List.setIfInBounds_toArray, List.set_cons_zero, List.set_cons_succ]
        refine held_one (i := 13) (by kernel_rfl) rfl (fun K hK => ?_)
        have hN := hHeld.newR
        have hS := hN.offB
        go_simp
        refine hK.out _ _ ?_ (fun _ => ?_)
        · exact hS
        clear hK K hS
        try simp only [Act.put, List.setIfInBounds_toArray, List.set_cons_zero, List.set_cons_succ]
        (try simp only [drew_heap] at hN)
        refine held_re hN (fun W h => h.offB) (fun X hHeld => ?_)
        clear hN
        refine held_one (i := 14) (by kernel_rfl) rfl (fun K hK => ?_)
        obtain ⟨hbb, zx, zy, zz, hbz⟩ := hHeld.blk _ List.mem_cons_self
        have hc0 := cells_blk hbz 0 zx rfl
        have hc1 := cells_blk hbz 1 zy rfl
        have hc2 := cells_blk hbz 2 zz rfl
        have hfz : ∀ j, World.frozen? _ ⟨_, j, none⟩ = false := fun j => by unfold World.frozen?; rw [hbz]; simp
        have hf0 := hfz 0
        have hf1 := hfz 1
        have hf2 := hfz 2
        clear hfz
        have hst := rec_store (.int .u8 kd) (.string (zs n)) (.string (zs m)) _ _ _ hbz
        have hS14 := hHeld.store List.mem_cons_self (.int .u8 kd) (.string (zs n)) (.string (zs m))
        go_simp
        refine hK.out _ _ ?_ (fun _ => ?_)
        · exact hS14
        clear hK K
        refine wpAnyH_done (by kernel_rfl) ?_ _
        refine NoPanic.normal ?_
        go_wp2_with fail
        go_meet
        exact ⟨_, rfl, hbb, hst, hS14.bel⟩
      · have hN := hHeld.newR
        have hS := hN.offB
        go_simp
        refine hK.out _ _ ?_ (fun _ => ?_)
        · exact hS
        clear hK K hS
        try simp only [Act.put, List.setIfInBounds_toArray, List.set_cons_zero, List.set_cons_succ]
        (try simp only [drew_heap] at hN)
        refine held_re hN (fun W h => h.offB) (fun X hHeld => ?_)
        clear hN
        refine held_one (i := 5) (by kernel_rfl) rfl (fun K hK => ?_)
        have hN := hHeld.make n (by omega)
        have hS := hN.offV
        go_simp
        refine hK.out _ _ ?_ (fun _ => ?_)
        · exact hS
        clear hK K hS
        try simp only [Act.put, List.setIfInBounds_toArray, List.set_cons_zero, List.set_cons_succ]
        (try simp only [drew_heap] at hN)
        refine held_re hN (fun W h => h.offV) (fun X hHeld => ?_)
        clear hN
        refine held_take (i := 6) (v := .string (zs n)) rfl (by kernel_rfl) (by kernel_rfl) (by kernel_rfl) (fun _ _ _ h => h) (by rfl) hHeld ?z9_6 ?_
        case z9_6 => (intro w hSw; have hcv := hSw.conv List.mem_cons_self; (try simp only [World.size_alloc, drew_heap] at hcv); go_simp)
        try simp only [Act.put, List.setIfInBounds_toArray, List.set_cons_zero, List.set_cons_succ]
        refine held_take (i := 12) (v := ?_) rfl (by kernel_rfl) (by kernel_rfl) (by kernel_rfl) (fun _ _ _ h => h) (by rfl) hHeld ?y4_12_10 ?_
        case y4_12_10 => (intro w hSw; (try dsimp only at hSw); go_simp; try with_reducible rfl)
        try simp only [Act.put, List.setIfInBounds_toArray, List.set_cons_zero, List.set_cons_succ]
        refine held_one (i := 14) (by kernel_rfl) rfl (fun K hK => ?_)
        obtain ⟨hbb, zx, zy, zz, hbz⟩ := hHeld.blk _ List.mem_cons_self
        have hc0 := cells_blk hbz 0 zx rfl
        have hc1 := cells_blk hbz 1 zy rfl
        have hc2 := cells_blk hbz 2 zz rfl
        have hfz : ∀ j, World.frozen? _ ⟨_, j, none⟩ = false := fun j => by unfold World.frozen?; rw [hbz]; simp
        have hf0 := hfz 0
        have hf1 := hfz 1
        have hf2 := hfz 2
        clear hfz
        have hst := rec_store (.int .u8 kd) (.string (zs n)) (.string (zs m)) _ _ _ hbz
        have hS14 := hHeld.store List.mem_cons_self (.int .u8 kd) (.string (zs n)) (.string (zs m))
        go_simp
        refine hK.out _ _ ?_ (fun _ => ?_)
        · exact hS14
        clear hK K
        refine wpAnyH_done (by kernel_rfl) ?_ _
        refine NoPanic.normal ?_
        go_wp2_with fail
        go_meet
        exact ⟨_, rfl, hbb, hst, hS14.bel⟩
    · have hN := hHeld.newR
      have hS := hN.offB
      go_simp
      refine hK.out _ _ ?_ (fun _ => ?_)
      · exact hS
      clear hK K hS
      try simp only [Act.put, List.setIfInBounds_toArray, List.set_cons_zero, List.set_cons_succ]
      (try simp only [drew_heap] at hN)
      refine held_re hN (fun W h => h.offB) (fun X hHeld => ?_)
      clear hN
      refine wpAnyH_ready (rs := [5, 10]) (by kernel_rfl) (by simp) ?_
      refine held_cons (i := 5) rfl (fun K hK => ?_) (held_cons (i := 10) rfl (fun K hK => ?_) AllReadyH.nil)
      · have hN := hHeld.make n (by omega)
        have hS := hN.offV
        go_simp
        refine hK.out _ _ ?_ (fun _ => ?_)
        · exact hS
        clear hK K hS
        try simp only [Act.put, List.setIfInBounds_toArray, List.set_cons_zero, List.set_cons_succ]
        (try simp only [drew_heap] at hN)
        refine held_re hN (fun W h => h.offV) (fun X hHeld => ?_)
        clear hN
        refine held_take (i := 6) (v := .string (zs n)) rfl (by kernel_rfl) (by kernel_rfl) (by kernel_rfl) (fun _ _ _ h => h) (by rfl) hHeld ?z11_6 ?_
        case z11_6 => (intro w hSw; have hcv := hSw.conv List.mem_cons_self; (try simp only [World.size_alloc, drew_heap] at hcv); go_simp)
        try simp only [Act.put, List.setIfInBounds_toArray, List.set_cons_zero, List.set_cons_succ]
        refine held_one (i := 10) (by kernel_rfl) rfl (fun K hK => ?_)
        have hN := hHeld.make m (by omega)
        have hS := hN.offV
        go_simp
        refine hK.out _ _ ?_ (fun _ => ?_)
        · exact hS
        clear hK K hS
        try simp only [Act.put, List.setIfInBounds_toArray, List.set_cons_zero, List.set_cons_succ]
        (try simp only [drew_heap] at hN)
        refine held_re hN (fun W h => h.offV) (fun X hHeld => ?_)
        clear hN
        refine held_take (i := 11) (v := .string (zs m)) rfl (by kernel_rfl) (by kernel_rfl) (by kernel_rfl) (fun _ _ _ h => h) (by rfl) hHeld ?z12_11 ?_
        case z12_11 => (intro w hSw; have hcv := hSw.conv List.mem_cons_self; (try simp only [World.size_alloc, drew_heap] at hcv); go_simp)
        try simp only [Act.put, List.setIfInBounds_toArray, List.set_cons_zero, List.set_cons_succ]
        refine held_take (i := 12) (v := ?_) rfl (by kernel_rfl) (by kernel_rfl) (by kernel_rfl) (fun _ _ _ h => h) (by rfl) hHeld ?y4_12_13 ?_
        case y4_12_13 => (intro w hSw; (try dsimp only at hSw); go_simp; try with_reducible rfl)
        try simp only [Act.put, List.setIfInBounds_toArray, List.set_cons_zero, List.set_cons_succ]
        refine held_one (i := 14) (by kernel_rfl) rfl (fun K hK => ?_)
        obtain ⟨hbb, zx, zy, zz, hbz⟩ := hHeld.blk _ List.mem_cons_self
        have hc0 := cells_blk hbz 0 zx rfl
        have hc1 := cells_blk hbz 1 zy rfl
        have hc2 := cells_blk hbz 2 zz rfl
        have hfz : ∀ j, World.frozen? _ ⟨_, j, none⟩ = false := fun j => by unfold World.frozen?; rw [hbz]; simp
        have hf0 := hfz 0
        have hf1 := hfz 1
        have hf2 := hfz 2
        clear hfz
        have hst := rec_store (.int .u8 kd) (.string (zs n)) (.string (zs m)) _ _ _ hbz
        have hS14 := hHeld.store List.mem_cons_self (.int .u8 kd) (.string (zs n)) (.string (zs m))
        go_simp
        refine hK.out _ _ ?_ (fun _ => ?_)
        · exact hS14
        clear hK K
        refine wpAnyH_done (by kernel_rfl) ?_ _
        refine NoPanic.normal ?_
        go_wp2_with fail
        go_meet
        exact ⟨_, rfl, hbb, hst, hS14.bel⟩
      · have hN := hHeld.make m (by omega)
        have hS := hN.offV
        go_simp
        refine hK.out _ _ ?_ (fun _ => ?_)
        · exact hS
        clear hK K hS
        try simp only [Act.put, List.setIfInBounds_toArray, List.set_cons_zero, List.set_cons_succ]
        (try simp only [drew_heap] at hN)
        refine held_re hN (fun W h => h.offV) (fun X hHeld => ?_)
        clear hN
        refine held_take (i := 11) (v := .string (zs m)) rfl (by kernel_rfl) (by kernel_rfl) (by kernel_rfl) (fun _ _ _ h => h) (by rfl) hHeld ?z14_11 ?_
        case z14_11 => (intro w hSw; have hcv := hSw.conv List.mem_cons_self; (try simp only [World.size_alloc, drew_heap] at hcv); go_simp)
        try simp only [Act.put, List.setIfInBounds_toArray, List.set_cons_zero, List.set_cons_succ]
        refine held_one (i := 5) (by kernel_rfl) rfl (fun K hK => ?_)
        have hN := hHeld.make n (by omega)
        have hS := hN.offV
        go_simp
        refine hK.out _ _ ?_ (fun _ => ?_)
        · exact hS
        clear hK K hS
        try simp only [Act.put, List.setIfInBounds_toArray, List.set_cons_zero, List.set_cons_succ]
        (try simp only [drew_heap] at hN)
        refine held_re hN (fun W h => h.offV) (fun X hHeld => ?_)
        clear hN
        refine held_take (i := 6) (v := .string (zs n)) rfl (by kernel_rfl) (by kernel_rfl) (by kernel_rfl) (fun _ _ _ h => h) (by rfl) hHeld ?z15_6 ?_
        case z15_6 => (intro w hSw; have hcv := hSw.conv List.mem_cons_self; (try simp only [World.size_alloc, drew_heap] at hcv); go_simp)
        try simp only [Act.put, List.setIfInBounds_toArray, List.set_cons_zero, List.set_cons_succ]
        refine held_take (i := 12) (v := ?_) rfl (by kernel_rfl) (by kernel_rfl) (by kernel_rfl) (fun _ _ _ h => h) (by rfl) hHeld ?y4_12_16 ?_
        case y4_12_16 => (intro w hSw; (try dsimp only at hSw); go_simp; try with_reducible rfl)
        try simp only [Act.put, List.setIfInBounds_toArray, List.set_cons_zero, List.set_cons_succ]
        refine held_one (i := 14) (by kernel_rfl) rfl (fun K hK => ?_)
        obtain ⟨hbb, zx, zy, zz, hbz⟩ := hHeld.blk _ List.mem_cons_self
        have hc0 := cells_blk hbz 0 zx rfl
        have hc1 := cells_blk hbz 1 zy rfl
        have hc2 := cells_blk hbz 2 zz rfl
        have hfz : ∀ j, World.frozen? _ ⟨_, j, none⟩ = false := fun j => by unfold World.frozen?; rw [hbz]; simp
        have hf0 := hfz 0
        have hf1 := hfz 1
        have hf2 := hfz 2
        clear hfz
        have hst := rec_store (.int .u8 kd) (.string (zs n)) (.string (zs m)) _ _ _ hbz
        have hS14 := hHeld.store List.mem_cons_self (.int .u8 kd) (.string (zs n)) (.string (zs m))
        go_simp
        refine hK.out _ _ ?_ (fun _ => ?_)
        · exact hS14
        clear hK K
        refine wpAnyH_done (by kernel_rfl) ?_ _
        refine NoPanic.normal ?_
        go_wp2_with fail
        go_meet
        exact ⟨_, rfl, hbb, hst, hS14.bel⟩
  case rest =>
    obtain ⟨rb, rfl, hrb, hrz, hbl⟩ := hcut
    obtain ⟨bw, hbw⟩ : ∃ bw, wc.heap.size = bw := ⟨_, rfl⟩
    have HRZ := Lib.hid hrz
    have HBL := Lib.hid hbl
    have hrlt : rb < wc.heap.size := (Array.getElem?_eq_some_iff.1 hrz).1
    have HRB : Hid (w1.heap.size ≤ rb ∧ rb < bw) := Lib.hid ⟨hrb, by omega⟩
    have HBW : Hid (wc.heap.size = bw) := Lib.hid hbw
    have hH0 : OwnR wc bw (.slice none 0 0) (List.replicate 0 rc0) := World.ownsRow_nil _ _ _ _
    have H0 := Lib.hid hH0
    clear hrz hbl hrlt hrb hbw hH0 ha hb hc ht hn hm hbt htt hct
    have HK := Lib.hid hk
    clear hk
    go_wp2_with fail
    go_loopw [11, 12] (fun u i wr => ∃ j : Nat, i = .int .i64 (j : Int) ∧ j ≤ k ∧ OwnR wr bw u (List.replicate j rc0) ∧ Below bw wc wr) (fun _ i _ => k - (intOf i).toNat)
    case atStart => exact ⟨0, rfl, Nat.zero_le _, H0.out, by rw [← HBW.out]; exact Below.refl _ _⟩
    case round =>
      obtain ⟨j, rfl, hj, ho, hbe⟩ := hrel
      have HO := Lib.hid ho
      have HE := Lib.hid hbe
      have hsz : bw ≤ wr.heap.size := by rw [← HBW.out]; exact hbe.size
      clear ho hbe
      by_cases hlt : j < k
      · have hlt' : (j : Int) < (k : Int) := by omega
        go_wp2_with (at_builtin; refine wpList_append_own _ rfl _ _ 32 rfl bw 50 i0 (.agg #[.int .u8 0, .string ByteArray.empty, .string ByteArray.empty]) 3 40 Try.underlying32 hi hz0 hz1 hz2 rfl (by decide) _ _ _ rfl (World.ownsRow.alloc HO.out _) ⟨_, 0, none⟩ 1 1 [.int .u8 2, .string (S [101, 110]), .string ByteArray.empty] rfl rfl (cell_three _ _ _ _ _) (by simp [Value.oneCell']) (by have : maxLen = 9223372036854775807 := rfl; rw [List.length_replicate]; omega) (by rw [List.length_replicate]; omega) (by simp; omega) ?_; intro v' z1 hown' hgrow _; have HW := Lib.hid hown'; have HG := Lib.hid hgrow; clear hown' hgrow)
        have hz := HG.out.size
        simp only [World.size_alloc] at hz
        have HN : Hid (OwnR z1 bw v' (List.replicate (j + 1) rc0)) := Lib.hid (by
          have := HW.out
          unfold OwnR
          rw [List.replicate_succ', List.flatMap_append, List.length_append]
          exact this)
        have HE2 : Hid (Below bw wc z1) := Lib.hid (by
          have h1 := HE.out.alloc hsz (.cells #[.int .u8 2, .string (S [101, 110]), .string ByteArray.empty] 50)
          exact h1.grown HG.out (by simp; omega) (fun k' hk' => (World.ownsRow.lt HO.out k' hk').1))
        clear HW HG
        go_roundw
        case rel => exact ⟨j + 1, by go_num, by omega, HN.out, HE2.out⟩
        case measure => simp [intOf]; omega
      · have hge : ¬ (j : Int) < (k : Int) := by omega
        obtain rfl : j = k := by omega
        obtain ⟨rs, hrs⟩ : ∃ rs, (if j = 0 then [] else (List.replicate j rc0).set (j / 2) ⟨kd, zs n, zs m⟩) = rs := ⟨_, rfl⟩
        have HRS := Lib.hid hrs
        clear hrs
        obtain ⟨Au, cu, hu⟩ := HO.out.sl
        rw [List.length_replicate] at hu
        subst hu
        go_upto_region 10 with fail
        go_cut [13] (fun s13 wx => s13 = .bool (decide (1 ≤ j) && decide (j ≤ 20)) ∧ wx = wr)
        case first =>
          by_cases h1 : 1 ≤ j
          · have h1' : (1 : Int) ≤ (j : Int) := by omega
            by_cases h2 : j ≤ 20
            · have h2' : (j : Int) ≤ 20 := by omega
              have HD : Hid ((decide (1 ≤ j) && decide (j ≤ 20)) = true) := Lib.hid (by rw [decide_eq_true h1, decide_eq_true h2]; rfl)
              go_wp2_with fail
              go_meet
              exact ⟨by rw [HD.out], rfl⟩
            · have h2' : ¬ (j : Int) ≤ 20 := by omega
              have HD : Hid ((decide (1 ≤ j) && decide (j ≤ 20)) = false) := Lib.hid (by rw [decide_eq_false h2]; simp)
              go_wp2_with fail
              go_meet
              exact ⟨by rw [HD.out], rfl⟩
          · have h1' : ¬ (1 : Int) ≤ (j : Int) := by omega
            have HD : Hid ((decide (1 ≤ j) && decide (j ≤ 20)) = false) := Lib.hid (by rw [decide_eq_false h1]; rfl)
            go_wp2_with fail
            go_meet
            exact ⟨by rw [HD.out], rfl⟩
        case rest =>
          obtain ⟨rfl, rfl⟩ := hcut
          obtain ⟨ok1, hok1⟩ : ∃ ok1, (decide (1 ≤ j) && decide (j ≤ 20)) = ok1 := ⟨_, rfl⟩
          rw [hok1]
          have HOK1 := Lib.hid hok1
          clear hok1
          go_upto_if 54 with fail
          go_cut [13] (fun s13 wx => s13 = .bool (groupB rs) ∧ OwnR wx bw (.slice Au j cu) rs ∧ Below w1.heap.size w1 wx)
          case first =>
            have HB13 : Hid (Below w1.heap.size w1 wc) := Lib.hid (HBL.out.trans (HE.out.mono (by have := HBW.out; have := HBL.out.size; omega)))
            by_cases hj0 : j = 0
            · subst hj0
              have HRE : Hid (rs = []) := Lib.hid HRS.out.symm
              have HG : Hid (groupB rs = ok1) := Lib.hid (by rw [HRE.out, ← HOK1.out]; rfl)
              go_wp2_with fail
              go_meet
              exact ⟨by rw [HG.out], by rw [HRE.out]; exact HO.out, HB13.out⟩
            · have hj1 : (0 : Int) < (j : Int) := by omega
              obtain ⟨i, hi2⟩ : ∃ i, j / 2 = i := ⟨_, rfl⟩
              have hij : i < j := by omega
              have hqt : (j : Int).tdiv 2 = (i : Int) := by rw [← hi2]; rfl
              obtain ⟨gb, hgb⟩ : ∃ gb, Au = some (⟨gb, 0, none⟩ : Addr) := by
                rcases HO.out.2 with ⟨he, -⟩ | ⟨g, cap, cur, he, -⟩
                · exfalso
                  injection he with _ he _
                  omega
                · injection he with he
                  exact ⟨g, he⟩
              subst hgb
              have hix : ∀ W, (Instr.indexAt 32 (.slice (some ⟨gb, 0, none⟩) j cu) (.int .i64 (i : Int))).run Try.prog W = .ok (.pointer (some ⟨gb, i * 3, none⟩)) W := fun W => by
                have h2 : 0 ≤ (i : Int) ∧ (i : Int) < (j : Int) := ⟨by omega, by omega⟩
                have h3 : ({ block := gb, off := 0, spot := none } : Addr).add (i * 3) = ⟨gb, i * 3, none⟩ := add_plain _ _
                go_simp
              have ho3 := HO.out
              unfold OwnR at ho3
              rw [List.length_replicate] at ho3
              have hput := own_put ho3 (List.length_replicate ..) i hij ⟨kd, zs n, zs m⟩
              have hlt3 : ∀ r, r < 3 → i * 3 + r < ((List.replicate j rc0).flatMap rcC).length := fun r hr => by rw [flat_len, List.length_replicate]; omega
              obtain ⟨x0, c0⟩ : ∃ x, wc.cell? ⟨gb, i * 3, none⟩ = some x := ⟨_, by have := World.ownsRow.cells ho3 rfl (i * 3) _ (List.getElem?_eq_getElem (by have := hlt3 0 (by omega); omega)); rwa [add_plain] at this⟩
              obtain ⟨x1, c1⟩ : ∃ x, wc.cell? ⟨gb, i * 3 + 1, none⟩ = some x := ⟨_, by have := World.ownsRow.cells ho3 rfl (i * 3 + 1) _ (List.getElem?_eq_getElem (hlt3 1 (by omega))); rwa [add_plain] at this⟩
              obtain ⟨x2, c2⟩ : ∃ x, wc.cell? ⟨gb, i * 3 + 2, none⟩ = some x := ⟨_, by have := World.ownsRow.cells ho3 rfl (i * 3 + 2) _ (List.getElem?_eq_getElem (hlt3 2 (by omega))); rwa [add_plain] at this⟩
              have z0 := World.ownsRow.frozenAt ho3 (i * 3)
              have z1 := World.ownsRow.frozenAt ho3 (i * 3 + 1)
              have z2 := World.ownsRow.frozenAt ho3 (i * 3 + 2)
              have hrbk := HE.out.block rb (by exact HRB.out.2)
              have r0 := cells_blk (hrbk.trans HRZ.out) 0 _ rfl
              have r1 := cells_blk (hrbk.trans HRZ.out) 1 _ rfl
              have r2 := cells_blk (hrbk.trans HRZ.out) 2 _ rfl
              have hgbw := (World.ownsRow.lt ho3 gb rfl).1
              have hne : rb ≠ gb := by have := HRB.out.2; omega
              have RS : Hid (∀ o : Nat, ((((wc.setCell ⟨gb, i * 3, none⟩ (.int .u8 kd)).setCell ⟨gb, i * 3 + 1, none⟩ (.string (zs n))).setCell ⟨gb, i * 3 + 2, none⟩ (.string (zs m))).cell? ⟨rb, o, none⟩) = wc.cell? ⟨rb, o, none⟩) := Lib.hid (fun o =>
                (set_keeps _ _ rb hne rfl).trans ((set_keeps _ _ rb hne rfl).trans (set_keeps _ _ rb hne rfl)))
              have q0 := (RS.out 0).trans r0
              have q1 := (RS.out 1).trans r1
              have q2 := (RS.out 2).trans r2
              have HB14 : Hid (Below w1.heap.size w1 (((wc.setCell ⟨gb, i * 3, none⟩ (.int .u8 kd)).setCell ⟨gb, i * 3 + 1, none⟩ (.string (zs n))).setCell ⟨gb, i * 3 + 2, none⟩ (.string (zs m)))) := Lib.hid (by
                have hg1 : w1.heap.size ≤ gb := by have := HRB.out; omega
                exact ((HB13.out.setCell (p := ⟨gb, i * 3, none⟩) hg1 _).setCell (p := ⟨gb, i * 3 + 1, none⟩) hg1 _).setCell (p := ⟨gb, i * 3 + 2, none⟩) hg1 _)
              have HRE : Hid (rs = (List.replicate j rc0).set i ⟨kd, zs n, zs m⟩) := Lib.hid (by rw [← HRS.out, if_neg hj0, hi2])
              have HPUT : Hid (OwnR (((wc.setCell ⟨gb, i * 3, none⟩ (.int .u8 kd)).setCell ⟨gb, i * 3 + 1, none⟩ (.string (zs n))).setCell ⟨gb, i * 3 + 2, none⟩ (.string (zs m))) bw (.slice (some ⟨gb, 0, none⟩) j cu) rs) := Lib.hid (by
                unfold OwnR
                rw [HRE.out, List.length_set, List.length_replicate]
                exact hput)
              have HG : Hid (groupB rs = (ok1 && rightB ⟨kd, zs n, zs m⟩)) := Lib.hid (by
                rw [HRE.out, groupB_put j _ i hij, ← HOK1.out, decide_eq_true (show 1 ≤ j by omega)]
                simp)
              have hs := str_none (zs m)
              have hzn := zs_size n
              have hzm := zs_size m
              have hzn' : ((zs n).size : Int) = (n : Int) := by omega
              have hzm' : ((zs m).size : Int) = (m : Int) := by omega
              rw [hzm] at hs
              clear hput ho3 hrbk RS hi2 hlt3
              have HZN := Lib.hid hzn
              have HZM := Lib.hid hzm
              clear hzn hzm
              cases ok1 with
              | false =>
                have HR2 : Hid (groupB rs = false) := Lib.hid (by
                  rw [HG.out]
                  unfold rightB
                  simp only [HZN.out, HZM.out]
                  simp)
                go_wp2_with fail
                go_meet
                exact ⟨by rw [HR2.out], HPUT.out, HB14.out⟩
              | true =>
                by_cases a1 : kd = 1
                · subst a1
                  by_cases b1 : n ≤ 40
                  · have b1' : (n : Int) ≤ 40 := by omega
                    by_cases b2 : m ≤ 2000
                    · have b2' : (m : Int) ≤ 2000 := by omega
                      have HR2 : Hid (groupB rs = true) := Lib.hid (by
                        rw [HG.out]
                        unfold rightB
                        simp only [HZN.out, HZM.out]
                        simp; omega)
                      go_wp2_with fail
                      go_meet
                      exact ⟨by rw [HR2.out], HPUT.out, HB14.out⟩
                    · have b2' : ¬ (m : Int) ≤ 2000 := by omega
                      have HR2 : Hid (groupB rs = false) := Lib.hid (by
                        rw [HG.out]
                        unfold rightB
                        simp only [HZN.out, HZM.out]
                        simp; omega)
                      go_wp2_with fail
                      go_meet
                      exact ⟨by rw [HR2.out], HPUT.out, HB14.out⟩
                  · have b1' : ¬ (n : Int) ≤ 40 := by omega
                    have HR2 : Hid (groupB rs = false) := Lib.hid (by
                      rw [HG.out]
                      unfold rightB
                      simp only [HZN.out, HZM.out]
                      simp; omega)
                    go_wp2_with fail
                    go_meet
                    exact ⟨by rw [HR2.out], HPUT.out, HB14.out⟩
                · have a1' : (kd == 1) = false := by rw [beq_eq_false_iff_ne]; exact a1
                  by_cases a2 : kd = 2
                  · subst a2
                    by_cases a3 : m = 0
                    · rw [decide_eq_true a3] at hs
                      have b2' : (m : Int) ≤ 2000 := by omega
                      have HA3 := Lib.hid a3
                      clear a3
                      by_cases b1 : n ≤ 40
                      · have b1' : (n : Int) ≤ 40 := by omega
                        have HR2 : Hid (groupB rs = true) := Lib.hid (by
                          rw [HG.out]
                          unfold rightB
                          simp only [HZN.out, HZM.out]
                          have a3 := HA3.out
                          simp; omega)
                        go_wp2_with fail
                        go_meet
                        exact ⟨by rw [HR2.out], HPUT.out, HB14.out⟩
                      · have b1' : ¬ (n : Int) ≤ 40 := by omega
                        have HR2 : Hid (groupB rs = false) := Lib.hid (by
                          rw [HG.out]
                          unfold rightB
                          simp only [HZN.out, HZM.out]
                          have a3 := HA3.out
                          simp; omega)
                        go_wp2_with fail
                        go_meet
                        exact ⟨by rw [HR2.out], HPUT.out, HB14.out⟩
                    · rw [decide_eq_false a3] at hs
                      have HR2 : Hid (groupB rs = false) := Lib.hid (by
                        rw [HG.out]
                        unfold rightB
                        simp only [HZN.out, HZM.out]
                        simp; omega)
                      go_wp2_with fail
                      go_meet
                      exact ⟨by rw [HR2.out], HPUT.out, HB14.out⟩
                  · have a2' : (kd == 2) = false := by rw [beq_eq_false_iff_ne]; exact a2
                    have HR2 : Hid (groupB rs = false) := Lib.hid (by
                      rw [HG.out]
                      unfold rightB
                      simp only [HZN.out, HZM.out]
                      simp; omega)
                    go_wp2_with fail
                    go_meet
                    exact ⟨by rw [HR2.out], HPUT.out, HB14.out⟩
          case rest =>
            obtain ⟨rfl, hown, hbel⟩ := hcut
            obtain ⟨ok, hok⟩ : ∃ ok, groupB rs = ok := ⟨_, rfl⟩
            rw [hok]
            have HOK := Lib.hid hok
            have HOW := Lib.hid hown
            have HBE := Lib.hid hbel
            have hll : rs.length = j := by
              rw [← HRS.out]
              split
              · show 0 = j
                omega
              · rw [List.length_set, List.length_replicate]
            have hrd := hown.rd (by omega)
            have HRD := Lib.hid hrd
            have K1 := Lib.hid (k_new wc 100000)
            clear hok hown hbel hrd hll
            go_wp2_with fail
            refine K1.out.mono ?_
            rintro e w2 ⟨p, G0, rfl, hp, hk⟩
            obtain ⟨f1, f2⟩ := wd_first (q := 100000)
            have KO := Lib.hid (wal_open hk (by show (0 : Int) + 30 < 1000000000; omega) (nm := lgN) (by decide) (fun h => by rw [f1] at h; exact absurd h (by decide)))
            rw [f2, f1] at KO
            clear hk K1 hp f1 f2
            go_wp2_with fail
            refine KO.out.mono ?_
            rintro e w3 (⟨-, v2, lb, G2, rfl, hlb, hls, hag, ht⟩ | ⟨hno, -⟩)
            case inr => exact absurd rfl hno
            rw [show gsOf ([] : List Int) = [] from congrArg (List.map _) gB_nil] at hag hls
            obtain ⟨A2, c2, rfl⟩ := hag.sl
            have HL3 : Hid (Ls wc.heap.size p lb wc G2 (wdisk 100000 3 [] []) lgN 0 false w3) := Lib.hid hls
            have HR3 := Lib.hid (HRD.out.below HL3.out.dk.bel)
            have HFAR : Hid (Far G2 (.slice Au j cu)) := Lib.hid (Far.own (Apart.below_ HL3.out.dk.at_ (fun g hg => (World.ownsRow.lt HOW.out g hg).2)))
            clear hls hag ht KO hlb
            cases ok with
            | true =>
              have hmx := enc_max HOK.out
              have hmn := enc_min HOK.out
              have hap := wd_append (q := 100000) (st := 3) (old := []) (b := []) rs (by simp; omega) (by simp; omega)
              have KA := Lib.hid (wal_append HL3.out (by show ((3 : Nat) : Int) + 15 < 1000000000; omega) (by decide) HR3.out HFAR.out HOK.out (by show -9223372036854775808 ≤ (100000 : Int) ∧ (100000 : Int) < 9223372036854775808; omega) (by omega))
              rw [hap] at KA
              clear hap
              go_wp2_with fail
              refine KA.out.mono ?_
              rintro e w4 ⟨rfl, G4, hls, hlt4⟩
              have HL4 : Hid (Ls wc.heap.size p lb wc G4 (wdisk 100000 5 [] ([] ++ encG rs)) lgN 1 false w4) := Lib.hid hls
              have KL := Lib.hid (wal_len lb lgN 1 false w4 HL4.out.lg)
              have KE := Lib.hid (wal_encode (.slice Au j cu) rs w4 (HRD.out.below HL4.out.dk.bel))
              clear hls hlt4 KA HL3 HR3 HFAR
              go_wp2_with fail
              refine KL.out.mono ?_
              rintro e w5 ⟨rfl, rfl⟩
              clear KL
              go_wp2_with fail
              refine KE.out.mono ?_
              rintro e w6 ⟨v6, rfl, ho6, hb6⟩
              obtain ⟨A6, c6, rfl, -, -⟩ := ho6.rd
              have hlen : (0 : Int) < ((encG rs).length : Int) := by omega
              have HL6 := Lib.hid (HL4.out.below hb6)
              have KB := Lib.hid (wal_broken lb lgN 1 false w6 HL6.out.lg)
              clear ho6 hb6 KE
              go_wp2_with fail
              refine KB.out.mono ?_
              rintro e w7 ⟨rfl, rfl⟩
              clear KB
              go_wp2_with fail
              go_ret
              exact ⟨rfl, HB1.out.trans ((HBE.out.trans (HL6.out.dk.bel.mono HBE.out.size)).mono HB1.out.size)⟩
            | false =>
              have henc : encG rs = [] := if_neg (by rw [HOK.out]; decide)
              have KA := Lib.hid (wal_append_no HL3.out HR3.out HOK.out)
              have HEN := Lib.hid henc
              clear henc
              go_wp2_with fail
              refine KA.out.mono ?_
              rintro e w4 ⟨rfl, hb4⟩
              have HL4 := Lib.hid (HL3.out.below hb4)
              have KL := Lib.hid (wal_len lb lgN 0 false w4 HL4.out.lg)
              have KE := Lib.hid (wal_encode (.slice Au j cu) rs w4 (HRD.out.below HL4.out.dk.bel))
              rw [HEN.out] at KE
              clear hb4 KA HL3 HR3 HFAR
              go_wp2_with fail
              refine KL.out.mono ?_
              rintro e w5 ⟨rfl, rfl⟩
              clear KL
              go_wp2_with fail
              refine KE.out.mono ?_
              rintro e w6 ⟨v6, rfl, ho6, hb6⟩
              obtain ⟨A6, c6, rfl, -, -⟩ := ho6.rd
              have HL6 := Lib.hid (HL4.out.below hb6)
              have KB := Lib.hid (wal_broken lb lgN 0 false w6 HL6.out.lg)
              clear ho6 hb6 KE
              go_wp2_with fail
              refine KB.out.mono ?_
              rintro e w7 ⟨rfl, rfl⟩
              clear KB
              go_wp2_with fail
              go_ret
              exact ⟨rfl, HB1.out.trans ((HBE.out.trans (HL6.out.dk.bel.mono HBE.out.size)).mono HB1.out.size)⟩
end Go.Proofs.Ytmdecbockpgagaa
