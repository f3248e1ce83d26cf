import Derived.Test.YtaccjifhgohfpaaDoorUtfRef
import Derived.Test.YtaccjifhgohfpaaDoorUtfBackMath
/- The document's UTF-8: the code point that begins bytes. -/
namespace Go.Proofs.YtaccjifhgohfpaaDoor
open Go.RowKit Go.Shelf Go.Lib Go.Proofs.YtaccjifhgohfpaaDoorW.PrintWords Go.Proofs.YtaccjifhgohfpaaDoorW.PrintMore

def oneR (bs : List Int) : Int × Int := if isGood (dec bs) = true then (((dec bs).1 : Int), ((dec bs).2 : Int)) else (0, 0)
theorem oneR_none {bs : List Int} (h : dec bs = (65533, 1)) : oneR bs = (0, 0) := by
  unfold oneR
  rw [h]
  rfl
theorem oneR_some {bs : List Int} {x : Int} {n : Nat} (h0 : 0 ≤ x) (h : dec bs = (x.toNat, n)) (hg : x ≠ 65533 ∨ 1 < n) : oneR bs = (x, (n : Int)) := by
  unfold oneR
  rw [h, if_pos (by unfold isGood; simp only [decide_eq_true_eq]; omega)]
  exact Prod.ext (by simp only; omega) rfl
theorem dec0 {bs : List Int} (h : (128 ≤ bs.getD 0 0 ∧ bs.getD 0 0 < 192) ∨ 248 ≤ bs.getD 0 0) (hb : bs.getD 0 0 < 256) : dec bs = (65533, 1) := by
  unfold dec decodeN
  repeat' split
  all_goals first | rfl | (exfalso; omega)
theorem dec1 {bs : List Int} (h : 0 ≤ bs.getD 0 0 ∧ bs.getD 0 0 < 128) : dec bs = ((bs.getD 0 0).toNat, 1) := by
  unfold dec decodeN
  rw [if_pos (by omega)]
theorem dec2_yes {bs : List Int} (h : 192 ≤ bs.getD 0 0 ∧ bs.getD 0 0 < 224) (h1 : 0 ≤ bs.getD 1 0 ∧ bs.getD 1 0 < 256) (hl : 2 ≤ bs.length) (hc : bs.getD 1 0 / 64 = 2) (hv : 128 ≤ bs.getD 0 0 % 32 * 64 + bs.getD 1 0 % 64) : dec bs = ((bs.getD 0 0 % 32 * 64 + bs.getD 1 0 % 64).toNat, 2) := by
  unfold dec decodeN
  rw [if_neg (by omega), if_pos (by omega), if_pos (by omega)]
  exact Prod.ext (by simp only; omega) rfl
theorem dec2_no {bs : List Int} (h : 192 ≤ bs.getD 0 0 ∧ bs.getD 0 0 < 224) (_h1 : 0 ≤ bs.getD 1 0 ∧ bs.getD 1 0 < 256) (hn : ¬ (2 ≤ bs.length ∧ (bs.getD 1 0 / 64 = 2) ∧ (128 ≤ bs.getD 0 0 % 32 * 64 + bs.getD 1 0 % 64))) : dec bs = (65533, 1) := by
  unfold dec decodeN
  repeat' split
  all_goals first | rfl | (exfalso; omega)
theorem dec3_yes {bs : List Int} (h : 224 ≤ bs.getD 0 0 ∧ bs.getD 0 0 < 240) (h1 : 0 ≤ bs.getD 1 0 ∧ bs.getD 1 0 < 256) (h2 : 0 ≤ bs.getD 2 0 ∧ bs.getD 2 0 < 256) (hl : 3 ≤ bs.length) (hc : bs.getD 1 0 / 64 = 2 ∧ bs.getD 2 0 / 64 = 2) (hv : 2048 ≤ (bs.getD 0 0 % 16 * 64 + bs.getD 1 0 % 64) * 64 + bs.getD 2 0 % 64 ∧ ((bs.getD 0 0 % 16 * 64 + bs.getD 1 0 % 64) * 64 + bs.getD 2 0 % 64 < 55296 ∨ 57343 < (bs.getD 0 0 % 16 * 64 + bs.getD 1 0 % 64) * 64 + bs.getD 2 0 % 64)) : dec bs = (((bs.getD 0 0 % 16 * 64 + bs.getD 1 0 % 64) * 64 + bs.getD 2 0 % 64).toNat, 3) := by
  unfold dec decodeN
  rw [if_neg (by omega), if_neg (by omega), if_pos (by omega), if_pos (by omega)]
  exact Prod.ext (by simp only; omega) rfl
theorem dec3_no {bs : List Int} (h : 224 ≤ bs.getD 0 0 ∧ bs.getD 0 0 < 240) (_h1 : 0 ≤ bs.getD 1 0 ∧ bs.getD 1 0 < 256) (_h2 : 0 ≤ bs.getD 2 0 ∧ bs.getD 2 0 < 256) (hn : ¬ (3 ≤ bs.length ∧ (bs.getD 1 0 / 64 = 2 ∧ bs.getD 2 0 / 64 = 2) ∧ (2048 ≤ (bs.getD 0 0 % 16 * 64 + bs.getD 1 0 % 64) * 64 + bs.getD 2 0 % 64 ∧ ((bs.getD 0 0 % 16 * 64 + bs.getD 1 0 % 64) * 64 + bs.getD 2 0 % 64 < 55296 ∨ 57343 < (bs.getD 0 0 % 16 * 64 + bs.getD 1 0 % 64) * 64 + bs.getD 2 0 % 64)))) : dec bs = (65533, 1) := by
  unfold dec decodeN
  repeat' split
  all_goals first | rfl | (exfalso; omega)
theorem dec4_yes {bs : List Int} (h : 240 ≤ bs.getD 0 0 ∧ bs.getD 0 0 < 248) (h1 : 0 ≤ bs.getD 1 0 ∧ bs.getD 1 0 < 256) (h2 : 0 ≤ bs.getD 2 0 ∧ bs.getD 2 0 < 256) (h3 : 0 ≤ bs.getD 3 0 ∧ bs.getD 3 0 < 256) (hl : 4 ≤ bs.length) (hc : bs.getD 1 0 / 64 = 2 ∧ bs.getD 2 0 / 64 = 2 ∧ bs.getD 3 0 / 64 = 2) (hv : 65536 ≤ ((bs.getD 0 0 % 8 * 64 + bs.getD 1 0 % 64) * 64 + bs.getD 2 0 % 64) * 64 + bs.getD 3 0 % 64 ∧ ((bs.getD 0 0 % 8 * 64 + bs.getD 1 0 % 64) * 64 + bs.getD 2 0 % 64) * 64 + bs.getD 3 0 % 64 ≤ 1114111) : dec bs = ((((bs.getD 0 0 % 8 * 64 + bs.getD 1 0 % 64) * 64 + bs.getD 2 0 % 64) * 64 + bs.getD 3 0 % 64).toNat, 4) := by
  unfold dec decodeN
  rw [if_neg (by omega), if_neg (by omega), if_neg (by omega), if_pos (by omega), if_pos (by omega)]
  exact Prod.ext (by simp only; omega) rfl
theorem dec4_no {bs : List Int} (h : 240 ≤ bs.getD 0 0 ∧ bs.getD 0 0 < 248) (_h1 : 0 ≤ bs.getD 1 0 ∧ bs.getD 1 0 < 256) (_h2 : 0 ≤ bs.getD 2 0 ∧ bs.getD 2 0 < 256) (_h3 : 0 ≤ bs.getD 3 0 ∧ bs.getD 3 0 < 256) (hn : ¬ (4 ≤ bs.length ∧ (bs.getD 1 0 / 64 = 2 ∧ bs.getD 2 0 / 64 = 2 ∧ bs.getD 3 0 / 64 = 2) ∧ (65536 ≤ ((bs.getD 0 0 % 8 * 64 + bs.getD 1 0 % 64) * 64 + bs.getD 2 0 % 64) * 64 + bs.getD 3 0 % 64 ∧ ((bs.getD 0 0 % 8 * 64 + bs.getD 1 0 % 64) * 64 + bs.getD 2 0 % 64) * 64 + bs.getD 3 0 % 64 ≤ 1114111))) : dec bs = (65533, 1) := by
  unfold dec decodeN
  repeat' split
  all_goals first | rfl | (exfalso; omega)

theorem mask192 {y : Int} (h : 0 ≤ y ∧ y < 256) : bits .and .u8 y 192 = y / 64 * 64 := by
  rw [u8_and y 192 h.1 h.2 (by decide) (by decide), show (192 : Int).toNat = 192 from rfl]
  have key : ∀ n : Fin 256, n.val &&& 192 = n.val / 64 * 64 := by decide +kernel
  have := key ⟨y.toNat, by omega⟩
  simp only at this
  rw [this]
  omega
theorem mask63 {y : Int} (h : 0 ≤ y ∧ y < 256) : bits .and .u8 y 63 = y % 64 := by
  rw [u8_and y 63 h.1 h.2 (by decide) (by decide), show (63 : Int).toNat = 63 from rfl, nat_mask6]
  omega
def accR (r0 : Int) (bs : List Int) : Nat → Int
  | 0 => r0
  | j + 1 => accR r0 bs j * 64 + bs.getD (j + 1) 0 % 64
theorem accR_le {r0 : Int} {bs : List Int} (h : 0 ≤ r0 ∧ r0 < 32) : ∀ j, j ≤ 2 → 0 ≤ accR r0 bs j ∧ accR r0 bs j < 1048576 := by
  intro j hj
  obtain rfl | rfl | rfl : j = 0 ∨ j = 1 ∨ j = 2 := by omega
  · simp only [accR]; omega
  · simp only [accR]; omega
  · simp only [accR]; omega

set_option maxHeartbeats 8000000 in
set_option maxRecDepth 100000 in
theorem ref_one (A : Option Addr) (c : Nat) (bs : List Int) (w : World) (hr : RdB w (.slice A bs.length c) bs) (hby : By bs) (hne : 0 < bs.length) :
    Calls Tryd.prog 33 #[.slice A bs.length c] w fun e w' => e = .returned (.tuple #[.int .i32 (oneR bs).1, .int .i64 (oneR bs).2]) ∧ w = w' := by
  obtain ⟨A', c', he, hcap, hlen, hml, hrd⟩ := hr
  injection he with e1 e2 e3
  subst e1
  subst e3
  obtain ⟨ad, rfl, hcell⟩ := hrd hne
  have hb0 := getD0 bs hby 0
  have hb1 := getD0 bs hby 1
  have hb2 := getD0 bs hby 2
  have hb3 := getD0 bs hby 3
  have HBY := Lib.hid (getD0 bs hby)
  have HC := Lib.hid hcell
  have ck := cell_at0 (hcell 0 hne)
  have hi0 : ∀ W, (Instr.indexAt 22 (.slice (some ad) bs.length c) (.int .i64 0)).run Tryd.prog W = .ok (.pointer (some ad)) W := fun W => by
    have h2 : (0 : Int) < (bs.length : Int) := by omega
    go_simp
  have hw : IntKind.i32.wrap (bs.getD 0 0) = bs.getD 0 0 := wrap_i32_of (by omega) (by omega)
  obtain ⟨b0, hb⟩ : ∃ b0, bs.getD 0 0 = b0 := ⟨_, rfl⟩
  have HB := Lib.hid hb
  clear hcell hrd hlen hby
  by_cases c1 : b0 < 128
  · have HO := Lib.hid (oneR_some (bs := bs) (by omega) (dec1 (by omega)) (.inl (by omega)))
    rw [hb] at ck hw HO
    clear hb0 hb1 hb2 hb3 hb
    go_enter Tryd.func33, Tryd.ntmps33
    go_wp2_with fail
    go_ret2
    rw [HO.out]
    exact ⟨rfl, rfl⟩
  by_cases c2 : b0 < 192 ∨ 248 ≤ b0
  · have HO := Lib.hid (oneR_none (dec0 (bs := bs) (by omega) (by omega)))
    rw [hb] at ck hw
    have c3 : (¬ 192 ≤ b0 ∧ ¬ 224 ≤ b0 ∧ ¬ 240 ≤ b0) ∨ (192 ≤ b0 ∧ ¬ b0 < 224 ∧ 224 ≤ b0 ∧ ¬ b0 < 240 ∧ 240 ≤ b0 ∧ ¬ b0 < 248) := by omega
    clear hb0 hb1 hb2 hb3 hb c2
    rcases c3 with ⟨c3, c4, c5⟩ | ⟨c3, c4, c5, c6, c7, c8⟩
    all_goals
      go_enter Tryd.func33, Tryd.ntmps33
      go_wp2_with fail
      go_ret2
      rw [HO.out]
      exact ⟨rfl, rfl⟩
  by_cases cc : b0 < 224
  · have HNO := Lib.hid (fun hn => oneR_none (dec2_no (bs := bs) (by omega) hb1 hn))
    have HYES := Lib.hid (fun hl hc hv => oneR_some (bs := bs) (by omega) (dec2_yes (bs := bs) (by omega) hb1 hl hc hv) (.inr (by decide)))
    have hr0 : bits .and .i32 b0 31 = b0 % 32 := low31 (by omega) (by omega)
    have HA := Lib.hid (fun j hj => accR_le (bs := bs) (show 0 ≤ b0 % 32 ∧ b0 % 32 < 32 by omega) j hj)
    have d0 : 192 ≤ b0 := by omega
    have d1 : b0 < 224 := by omega
    rw [hb] at ck hw HNO HYES
    clear hb0 hb1 hb2 hb3 hb c2
    by_cases hl : bs.length < 2
    · go_enter Tryd.func33, Tryd.ntmps33
      go_wp2_with fail
      go_ret2
      rw [HNO.out (fun h => by omega)]
      exact ⟨rfl, rfl⟩
    go_enter Tryd.func33, Tryd.ntmps33
    go_wp2_with fail
    go_loopw [6, 8] (fun r i wr => ∃ j : Nat, j + 1 ≤ 2 ∧ r = .int .i32 (accR (b0 % 32) bs j) ∧ i = .int .i64 ((j : Int) + 1) ∧ wr = w ∧ Hid (∀ m, 1 ≤ m → m ≤ j → bs.getD m 0 / 64 = 2)) (fun _ i _ => 2 - (RowKit.intOf i).toNat)
    case atStart => exact ⟨0, by omega, rfl, rfl, rfl, Lib.hid (fun m h1 h2 => by omega)⟩
    case round =>
      obtain ⟨j, hj, rfl, rfl, rfl, HQ⟩ := hrel
      by_cases hlt : j + 1 < 2
      · have hlen : j + 1 < bs.length := by omega
        obtain ⟨m, hm⟩ : ∃ m, j + 1 = m := ⟨_, rfl⟩
        have hmi : ((j : Int) + 1) = (m : Int) := by omega
        have HM := Lib.hid hm
        have cj := HC.out (j + 1) hlen
        have hy := HBY.out (j + 1)
        have hacc := HA.out j (by omega)
        have HS : Hid (accR (b0 % 32) bs (j + 1) = accR (b0 % 32) bs j * 64 + bs.getD (j + 1) 0 % 64) := Lib.hid rfl
        have hi1 : ∀ W, (Instr.indexAt 22 (.slice (some ad) bs.length c) (.int .i64 (m : Int))).run Tryd.prog W = .ok (.pointer (some (ad.add m))) W := fun W => by
          have h2 : 0 ≤ (m : Int) ∧ (m : Int) < (bs.length : Int) := ⟨by omega, by omega⟩
          go_simp
        obtain ⟨y, hyy⟩ : ∃ y, bs.getD (j + 1) 0 = y := ⟨_, rfl⟩
        have HY := Lib.hid hyy
        rw [hyy] at cj hy HS
        rw [hm] at cj
        rw [hmi]
        have hlm : m < 2 := by omega
        obtain ⟨a, ha⟩ : ∃ a, accR (b0 % 32) bs j = a := ⟨_, rfl⟩
        rw [ha] at hacc HS ⊢
        have m1 := mask192 hy
        have m2 := mask63 hy
        have m3 : IntKind.i32.wrap (a * 64) = a * 64 := wrap_i32_of (by omega) (by omega)
        have m4 : IntKind.i32.wrap (y % 64) = y % 64 := wrap_i32_of (by omega) (by omega)
        have m5 : bits .or .i32 (a * 64) (y % 64) = a * 64 + y % 64 := join64 hacc.1 hacc.2 (by omega) (by omega)
        by_cases hq : y / 64 = 2
        · rw [hq] at m1
          have Hq := Lib.hid hq
          clear hq ha hyy hacc hy hm hmi hlen hlt hj
          go_wp2_with fail
          go_roundw
          case rel => exact ⟨j + 1, by have := HM.out; omega, by rw [HS.out], (by rw [show (((j + 1 : Nat) : Int) + 1) = (m : Int) + 1 from by have := HM.out; omega]), trivial, Lib.hid (fun m h1 h2 => by
            rcases Nat.lt_or_ge m (j + 1) with h | h
            · exact HQ.out m h1 (by omega)
            · rw [show m = j + 1 from by omega, HY.out, Hq.out])⟩
          case measure => simp [RowKit.intOf]; omega
        · have hn : (y / 64 * 64 != 128) = true := by rw [bne_iff_ne]; omega
          have Hq := Lib.hid hq
          clear hq ha hyy hacc hy hm hmi hlen hlt hj
          go_wp2_with fail
          go_ret2
          rw [HNO.out (fun h => by
            have hz := HY.out
            have hmm := HM.out
            have hjj : j = 0 := by omega
            have hqq := Hq.out
            subst hjj; simp only [Nat.zero_add] at hz; omega)]
          exact ⟨rfl, rfl⟩
      · have hjn : j = 1 := by omega
        subst hjn
        have HE : Hid (accR (b0 % 32) bs 1 = b0 % 32 * 64 + bs.getD 1 0 % 64) := Lib.hid rfl
        obtain ⟨X, hX⟩ : ∃ X, accR (b0 % 32) bs 1 = X := ⟨_, rfl⟩
        rw [hX] at HE ⊢
        have hE' := HE.out
        have q1 := HBY.out 1
        have q2 := HBY.out 2
        have q3 := HBY.out 3
        have hvv : ((X < 128)) ∨ ((¬ X < 128 ∧ ¬ 1114111 < X ∧ X < 55296)) := by omega
        clear hE' q1 q2 q3
        clear hX
        rcases hvv with hvv | hvv
        · have HR := Lib.hid (HNO.out (fun h => by have := HE.out; have hb := HB.out; omega))
          rcases hvv with x0
          all_goals
            go_wp2_with fail
            go_ret2
            rw [HR.out]
            exact ⟨rfl, rfl⟩
        · have HR := Lib.hid (HYES.out (by omega) (HQ.out 1 (by omega) (by omega)) (by have := HE.out; omega))
          rw [← HE.out] at HR
          rcases hvv with ⟨x0, x1, x2⟩
          all_goals
            go_wp2_with fail
            go_ret2
            rw [HR.out]
            exact ⟨rfl, rfl⟩
  by_cases cc : b0 < 240
  · have HNO := Lib.hid (fun hn => oneR_none (dec3_no (bs := bs) (by omega) hb1 hb2 hn))
    have HYES := Lib.hid (fun hl hc hv => oneR_some (bs := bs) (by omega) (dec3_yes (bs := bs) (by omega) hb1 hb2 hl hc hv) (.inr (by decide)))
    have hr0 : bits .and .i32 b0 15 = b0 % 16 := low15 (by omega) (by omega)
    have HA := Lib.hid (fun j hj => accR_le (bs := bs) (show 0 ≤ b0 % 16 ∧ b0 % 16 < 32 by omega) j hj)
    have d0 : 192 ≤ b0 := by omega
    have d1 : ¬ b0 < 224 := by omega
    have d2 : 224 ≤ b0 := by omega
    have d3 : b0 < 240 := by omega
    rw [hb] at ck hw HNO HYES
    clear hb0 hb1 hb2 hb3 hb c2
    by_cases hl : bs.length < 3
    · go_enter Tryd.func33, Tryd.ntmps33
      go_wp2_with fail
      go_ret2
      rw [HNO.out (fun h => by omega)]
      exact ⟨rfl, rfl⟩
    go_enter Tryd.func33, Tryd.ntmps33
    go_wp2_with fail
    go_loopw [6, 8] (fun r i wr => ∃ j : Nat, j + 1 ≤ 3 ∧ r = .int .i32 (accR (b0 % 16) bs j) ∧ i = .int .i64 ((j : Int) + 1) ∧ wr = w ∧ Hid (∀ m, 1 ≤ m → m ≤ j → bs.getD m 0 / 64 = 2)) (fun _ i _ => 3 - (RowKit.intOf i).toNat)
    case atStart => exact ⟨0, by omega, rfl, rfl, rfl, Lib.hid (fun m h1 h2 => by omega)⟩
    case round =>
      obtain ⟨j, hj, rfl, rfl, rfl, HQ⟩ := hrel
      by_cases hlt : j + 1 < 3
      · have hlen : j + 1 < bs.length := by omega
        obtain ⟨m, hm⟩ : ∃ m, j + 1 = m := ⟨_, rfl⟩
        have hmi : ((j : Int) + 1) = (m : Int) := by omega
        have HM := Lib.hid hm
        have cj := HC.out (j + 1) hlen
        have hy := HBY.out (j + 1)
        have hacc := HA.out j (by omega)
        have HS : Hid (accR (b0 % 16) bs (j + 1) = accR (b0 % 16) bs j * 64 + bs.getD (j + 1) 0 % 64) := Lib.hid rfl
        have hi1 : ∀ W, (Instr.indexAt 22 (.slice (some ad) bs.length c) (.int .i64 (m : Int))).run Tryd.prog W = .ok (.pointer (some (ad.add m))) W := fun W => by
          have h2 : 0 ≤ (m : Int) ∧ (m : Int) < (bs.length : Int) := ⟨by omega, by omega⟩
          go_simp
        obtain ⟨y, hyy⟩ : ∃ y, bs.getD (j + 1) 0 = y := ⟨_, rfl⟩
        have HY := Lib.hid hyy
        rw [hyy] at cj hy HS
        rw [hm] at cj
        rw [hmi]
        have hlm : m < 3 := by omega
        obtain ⟨a, ha⟩ : ∃ a, accR (b0 % 16) bs j = a := ⟨_, rfl⟩
        rw [ha] at hacc HS ⊢
        have m1 := mask192 hy
        have m2 := mask63 hy
        have m3 : IntKind.i32.wrap (a * 64) = a * 64 := wrap_i32_of (by omega) (by omega)
        have m4 : IntKind.i32.wrap (y % 64) = y % 64 := wrap_i32_of (by omega) (by omega)
        have m5 : bits .or .i32 (a * 64) (y % 64) = a * 64 + y % 64 := join64 hacc.1 hacc.2 (by omega) (by omega)
        by_cases hq : y / 64 = 2
        · rw [hq] at m1
          have Hq := Lib.hid hq
          clear hq ha hyy hacc hy hm hmi hlen hlt hj
          go_wp2_with fail
          go_roundw
          case rel => exact ⟨j + 1, by have := HM.out; omega, by rw [HS.out], (by rw [show (((j + 1 : Nat) : Int) + 1) = (m : Int) + 1 from by have := HM.out; omega]), trivial, Lib.hid (fun m h1 h2 => by
            rcases Nat.lt_or_ge m (j + 1) with h | h
            · exact HQ.out m h1 (by omega)
            · rw [show m = j + 1 from by omega, HY.out, Hq.out])⟩
          case measure => simp [RowKit.intOf]; omega
        · have hn : (y / 64 * 64 != 128) = true := by rw [bne_iff_ne]; omega
          have Hq := Lib.hid hq
          clear hq ha hyy hacc hy hm hmi hlen hlt hj
          go_wp2_with fail
          go_ret2
          rw [HNO.out (fun h => by
            have hz := HY.out
            have hmm := HM.out
            have hjj : j = 0 ∨ j = 1 := by omega
            have hqq := Hq.out
            rcases hjj with rfl | rfl <;> simp only [Nat.zero_add, Nat.reduceAdd] at hz <;> omega)]
          exact ⟨rfl, rfl⟩
      · have hjn : j = 2 := by omega
        subst hjn
        have HE : Hid (accR (b0 % 16) bs 2 = (b0 % 16 * 64 + bs.getD 1 0 % 64) * 64 + bs.getD 2 0 % 64) := Lib.hid rfl
        obtain ⟨X, hX⟩ : ∃ X, accR (b0 % 16) bs 2 = X := ⟨_, rfl⟩
        rw [hX] at HE ⊢
        have hE' := HE.out
        have q1 := HBY.out 1
        have q2 := HBY.out 2
        have q3 := HBY.out 3
        have hvv : ((X < 2048) ∨ (¬ X < 2048 ∧ ¬ 1114111 < X ∧ ¬ X < 55296 ∧ ¬ 57343 < X)) ∨ ((¬ X < 2048 ∧ ¬ 1114111 < X ∧ X < 55296) ∨ (¬ X < 2048 ∧ ¬ 1114111 < X ∧ ¬ X < 55296 ∧ 57343 < X)) := by omega
        clear hE' q1 q2 q3
        clear hX
        rcases hvv with hvv | hvv
        · have HR := Lib.hid (HNO.out (fun h => by have := HE.out; have hb := HB.out; omega))
          rcases hvv with x0 | ⟨x0, x1, x2, x3⟩
          all_goals
            go_wp2_with fail
            go_ret2
            rw [HR.out]
            exact ⟨rfl, rfl⟩
        · have HR := Lib.hid (HYES.out (by omega) ⟨HQ.out 1 (by omega) (by omega), HQ.out 2 (by omega) (by omega)⟩ (by have := HE.out; omega))
          rw [← HE.out] at HR
          rcases hvv with ⟨x0, x1, x2⟩ | ⟨x0, x1, x2, x3⟩
          all_goals
            go_wp2_with fail
            go_ret2
            rw [HR.out]
            exact ⟨rfl, rfl⟩
  have cc : b0 < 248 := by omega
  · have HNO := Lib.hid (fun hn => oneR_none (dec4_no (bs := bs) (by omega) hb1 hb2 hb3 hn))
    have HYES := Lib.hid (fun hl hc hv => oneR_some (bs := bs) (by omega) (dec4_yes (bs := bs) (by omega) hb1 hb2 hb3 hl hc hv) (.inr (by decide)))
    have hr0 : bits .and .i32 b0 7 = b0 % 8 := low7 (by omega) (by omega)
    have HA := Lib.hid (fun j hj => accR_le (bs := bs) (show 0 ≤ b0 % 8 ∧ b0 % 8 < 32 by omega) j hj)
    have d0 : 192 ≤ b0 := by omega
    have d1 : ¬ b0 < 224 := by omega
    have d2 : 224 ≤ b0 := by omega
    have d3 : ¬ b0 < 240 := by omega
    have d4 : 240 ≤ b0 := by omega
    have d5 : b0 < 248 := by omega
    rw [hb] at ck hw HNO HYES
    clear hb0 hb1 hb2 hb3 hb c2
    by_cases hl : bs.length < 4
    · go_enter Tryd.func33, Tryd.ntmps33
      go_wp2_with fail
      go_ret2
      rw [HNO.out (fun h => by omega)]
      exact ⟨rfl, rfl⟩
    go_enter Tryd.func33, Tryd.ntmps33
    go_wp2_with fail
    go_loopw [6, 8] (fun r i wr => ∃ j : Nat, j + 1 ≤ 4 ∧ r = .int .i32 (accR (b0 % 8) bs j) ∧ i = .int .i64 ((j : Int) + 1) ∧ wr = w ∧ Hid (∀ m, 1 ≤ m → m ≤ j → bs.getD m 0 / 64 = 2)) (fun _ i _ => 4 - (RowKit.intOf i).toNat)
    case atStart => exact ⟨0, by omega, rfl, rfl, rfl, Lib.hid (fun m h1 h2 => by omega)⟩
    case round =>
      obtain ⟨j, hj, rfl, rfl, rfl, HQ⟩ := hrel
      by_cases hlt : j + 1 < 4
      · have hlen : j + 1 < bs.length := by omega
        obtain ⟨m, hm⟩ : ∃ m, j + 1 = m := ⟨_, rfl⟩
        have hmi : ((j : Int) + 1) = (m : Int) := by omega
        have HM := Lib.hid hm
        have cj := HC.out (j + 1) hlen
        have hy := HBY.out (j + 1)
        have hacc := HA.out j (by omega)
        have HS : Hid (accR (b0 % 8) bs (j + 1) = accR (b0 % 8) bs j * 64 + bs.getD (j + 1) 0 % 64) := Lib.hid rfl
        have hi1 : ∀ W, (Instr.indexAt 22 (.slice (some ad) bs.length c) (.int .i64 (m : Int))).run Tryd.prog W = .ok (.pointer (some (ad.add m))) W := fun W => by
          have h2 : 0 ≤ (m : Int) ∧ (m : Int) < (bs.length : Int) := ⟨by omega, by omega⟩
          go_simp
        obtain ⟨y, hyy⟩ : ∃ y, bs.getD (j + 1) 0 = y := ⟨_, rfl⟩
        have HY := Lib.hid hyy
        rw [hyy] at cj hy HS
        rw [hm] at cj
        rw [hmi]
        have hlm : m < 4 := by omega
        obtain ⟨a, ha⟩ : ∃ a, accR (b0 % 8) bs j = a := ⟨_, rfl⟩
        rw [ha] at hacc HS ⊢
        have m1 := mask192 hy
        have m2 := mask63 hy
        have m3 : IntKind.i32.wrap (a * 64) = a * 64 := wrap_i32_of (by omega) (by omega)
        have m4 : IntKind.i32.wrap (y % 64) = y % 64 := wrap_i32_of (by omega) (by omega)
        have m5 : bits .or .i32 (a * 64) (y % 64) = a * 64 + y % 64 := join64 hacc.1 hacc.2 (by omega) (by omega)
        by_cases hq : y / 64 = 2
        · rw [hq] at m1
          have Hq := Lib.hid hq
          clear hq ha hyy hacc hy hm hmi hlen hlt hj
          go_wp2_with fail
          go_roundw
          case rel => exact ⟨j + 1, by have := HM.out; omega, by rw [HS.out], (by rw [show (((j + 1 : Nat) : Int) + 1) = (m : Int) + 1 from by have := HM.out; omega]), trivial, Lib.hid (fun m h1 h2 => by
            rcases Nat.lt_or_ge m (j + 1) with h | h
            · exact HQ.out m h1 (by omega)
            · rw [show m = j + 1 from by omega, HY.out, Hq.out])⟩
          case measure => simp [RowKit.intOf]; omega
        · have hn : (y / 64 * 64 != 128) = true := by rw [bne_iff_ne]; omega
          have Hq := Lib.hid hq
          clear hq ha hyy hacc hy hm hmi hlen hlt hj
          go_wp2_with fail
          go_ret2
          rw [HNO.out (fun h => by
            have hz := HY.out
            have hmm := HM.out
            have hjj : j = 0 ∨ j = 1 ∨ j = 2 := by omega
            have hqq := Hq.out
            rcases hjj with rfl | rfl | rfl <;> simp only [Nat.zero_add, Nat.reduceAdd] at hz <;> omega)]
          exact ⟨rfl, rfl⟩
      · have hjn : j = 3 := by omega
        subst hjn
        have HE : Hid (accR (b0 % 8) bs 3 = ((b0 % 8 * 64 + bs.getD 1 0 % 64) * 64 + bs.getD 2 0 % 64) * 64 + bs.getD 3 0 % 64) := Lib.hid rfl
        obtain ⟨X, hX⟩ : ∃ X, accR (b0 % 8) bs 3 = X := ⟨_, rfl⟩
        rw [hX] at HE ⊢
        have hE' := HE.out
        have q1 := HBY.out 1
        have q2 := HBY.out 2
        have q3 := HBY.out 3
        have hvv : ((X < 65536) ∨ (¬ X < 65536 ∧ 1114111 < X)) ∨ ((¬ X < 65536 ∧ ¬ 1114111 < X ∧ ¬ X < 55296 ∧ 57343 < X)) := by omega
        clear hE' q1 q2 q3
        clear hX
        rcases hvv with hvv | hvv
        · have HR := Lib.hid (HNO.out (fun h => by have := HE.out; have hb := HB.out; omega))
          rcases hvv with x0 | ⟨x0, x1⟩
          all_goals
            go_wp2_with fail
            go_ret2
            rw [HR.out]
            exact ⟨rfl, rfl⟩
        · have HR := Lib.hid (HYES.out (by omega) ⟨HQ.out 1 (by omega) (by omega), HQ.out 2 (by omega) (by omega), HQ.out 3 (by omega) (by omega)⟩ (by have := HE.out; omega))
          rw [← HE.out] at HR
          rcases hvv with ⟨x0, x1, x2, x3⟩
          all_goals
            go_wp2_with fail
            go_ret2
            rw [HR.out]
            exact ⟨rfl, rfl⟩
end Go.Proofs.YtaccjifhgohfpaaDoor
