import Derived.Test.YtekpmpghbeeeoaaGreatDoorLexPlain
import Derived.Test.YtekpmpghbeeeoaaGreatDoorStep
import Derived.Shelf.Abstract
/- The small functions of package lex. -/
namespace Go.Proofs.YtekpmpghbeeeoaaGreatDoor
open Go.RowKit Go.Shelf Go.Proofs.YtekpmpghbeeeoaaGreatDoorW.PrintWords Go.Proofs.YtekpmpghbeeeoaaGreatDoorW.PrintMore

/-- A value that tells whether a byte is so. -/
def Tells (F : Nat) (p : UInt8 → Bool) : Prop := ∀ (b : UInt8) (W : World), Calls Tryz.prog F #[.int .u8 (b.toNat : Int)] W fun e w' => e = .returned (.bool (p b)) ∧ W = w'
theorem lex_letter : Tells 45 ltr := fun b W => by
  have hb := b.toNat_lt
  unfold ltr
  by_cases h1 : 97 ≤ b.toNat <;> by_cases h2 : b.toNat ≤ 122 <;> by_cases h3 : 65 ≤ b.toNat <;> by_cases h4 : b.toNat ≤ 90
  all_goals
    first
    | (exfalso; omega)
    | (go_enter Tryz.func45, Tryz.ntmps45
       go_wp2_with fail
       go_ret
       exact ⟨by simp [h1, h2, h3, h4] <;> omega, rfl⟩)
theorem lex_digit : Tells 43 dgt := fun b W => by
  have hb := b.toNat_lt
  unfold dgt
  by_cases h1 : 48 ≤ b.toNat <;> by_cases h2 : b.toNat ≤ 57
  all_goals
    first
    | (exfalso; omega)
    | (go_enter Tryz.func43, Tryz.ntmps43
       go_wp2_with fail
       go_ret
       exact ⟨by simp [h1, h2] <;> omega, rfl⟩)
theorem blank1_ : Tells 40 blk := fun b W => by
  have hb := b.toNat_lt
  unfold blk
  have e1 : (b == 32) = decide (b.toNat = 32) := by rw [Bool.eq_iff_iff]; simp [← UInt8.toNat_inj]
  have e2 : (b == 9) = decide (b.toNat = 9) := by rw [Bool.eq_iff_iff]; simp [← UInt8.toNat_inj]
  have e3 : (b == 13) = decide (b.toNat = 13) := by rw [Bool.eq_iff_iff]; simp [← UInt8.toNat_inj]
  rw [e1, e2, e3]
  clear e1 e2 e3
  by_cases h1 : b.toNat = 32 <;> by_cases h2 : b.toNat = 9 <;> by_cases h3 : b.toNat = 13
  all_goals
    first
    | (exfalso; omega)
    | (go_enter Tryz.func40, Tryz.ntmps40
       go_wp2_with fail
       go_ret
       exact ⟨by simp [h1, h2, h3] <;> omega, rfl⟩)
theorem blank2_ : Tells 41 noLine := fun b W => by
  have hb := b.toNat_lt
  unfold noLine
  have e1 : (b == 10) = decide (b.toNat = 10) := by rw [Bool.eq_iff_iff]; simp [← UInt8.toNat_inj]
  rw [e1]
  clear e1
  by_cases h1 : b.toNat = 10
  all_goals
    (go_enter Tryz.func41, Tryz.ntmps41
     go_wp2_with fail
     go_ret
     exact ⟨by simp [h1] <;> omega, rfl⟩)
theorem name1_ : Tells 60 eid := fun b W => by
  have HL := Lib.hid (lex_letter b W)
  have HD := Lib.hid (lex_digit b W)
  unfold eid
  cases h1 : ltr b with
  | true =>
    rw [h1] at HL
    go_enter Tryz.func60, Tryz.ntmps60
    go_wp2_with fail
    refine HL.out.mono ?_
    rintro e w1 ⟨rfl, rfl⟩
    go_wp2
    go_ret
    exact ⟨rfl, rfl⟩
  | false =>
    rw [h1] at HL
    go_enter Tryz.func60, Tryz.ntmps60
    go_wp2_with fail
    refine HL.out.mono ?_
    rintro e w1 ⟨rfl, rfl⟩
    go_wp2_with fail
    refine HD.out.mono ?_
    rintro e w1 ⟨rfl, rfl⟩
    go_wp2
    go_ret
    exact ⟨rfl, rfl⟩

set_option maxRecDepth 100000 in
set_option maxHeartbeats 1000000 in
/-- How many bytes a text begins with that are so. -/
theorem lex_many {F : Nat} {p : UInt8 → Bool} (HF : Tells F p) (hE : ∀ args W, (callFunc F args).run Tryz.prog W = .ok (.enter F args) W) (l : List UInt8) (hl : l.length ≤ 1000000) (W : World) :
    Calls Tryz.prog 39 #[.string (S l), .func (.func F) #[] #[]] W fun e w' => e = .returned (.int .i64 (cnt p l : Int)) ∧ W = w' := by
  have hsz := S_size l
  have HT := Lib.hid HF
  have HEN := Lib.hid hE
  clear HF hE
  go_enter Tryz.func39, Tryz.ntmps39
  go_wp2_with fail
  go_loop [5] (fun i => ∃ k : Nat, k ≤ l.length ∧ i = .int .i64 (k : Int) ∧ Hid (k ≤ cnt p l)) (fun i => l.length - (intOf i).toNat)
  case atStart => exact ⟨0, Nat.zero_le _, rfl, Lib.hid (Nat.zero_le _)⟩
  case round =>
    obtain ⟨k, hk, rfl, HK⟩ := hrel
    have HC := Lib.hid (cnt_le p l)
    by_cases hlt : k < l.length
    · have hix := ixS hlt W
      have hen := HEN.out #[.int .u8 ((l[k]).toNat : Int)] W
      have HF := Lib.hid (HT.out l[k] W)
      have HS := Lib.hid (cnt_step HK.out hlt)
      cases hp : p l[k] with
      | true =>
        rw [hp] at HF HS
        clear hp
        have HS2 := Lib.hid (HS.out.2 rfl)
        clear HS
        generalize ((l[k]).toNat : Int) = x at hix HF hen
        go_wp2_with fail
        refine HF.out.mono ?_
        rintro e w1 ⟨rfl, rfl⟩
        go_wp2_with fail
        go_round
        case rel => exact ⟨k + 1, by omega, by go_num, HS2⟩
        case measure => simp [intOf]; omega
      | false =>
        rw [hp] at HF HS
        clear hp
        have hE : k = cnt p l := by
          have h1 := HK.out
          by_cases h2 : k < cnt p l
          · cases HS.out.1 h2
          · omega
        have HE := Lib.hid hE
        clear hE
        generalize ((l[k]).toNat : Int) = x at hix HF hen
        go_wp2_with fail
        refine HF.out.mono ?_
        rintro e w1 ⟨rfl, rfl⟩
        go_wp2_with fail
        go_ret
        exact ⟨by rw [HE.out]; rfl, rfl⟩
    · have HE : Hid (l.length = cnt p l) := Lib.hid (by have h1 := HK.out; have h2 := HC.out; omega)
      obtain rfl : k = l.length := by omega
      go_wp2_with fail
      go_ret
      exact ⟨by rw [HE.out]; rfl, rfl⟩
/-- The count of a function's. -/
def Many (F : Nat) (p : UInt8 → Bool) : Prop := ∀ (l : List UInt8), l.length ≤ 1000000 → ∀ (W : World), Calls Tryz.prog 39 #[.string (S l), .func (.func F) #[] #[]] W fun e w' => e = .returned (.int .i64 (cnt p l : Int)) ∧ W = w'
set_option maxRecDepth 100000 in
set_option maxHeartbeats 1000000 in
theorem ident1_ : Tells 61 idn := fun b W => by
  have hb := b.toNat_lt
  have HL := Lib.hid (lex_letter b W)
  have HD := Lib.hid (lex_digit b W)
  unfold idn
  have e45 : (b == 45) = decide (b.toNat = 45) := by rw [Bool.eq_iff_iff]; simp [← UInt8.toNat_inj]
  have e95 : (b == 95) = decide (b.toNat = 95) := by rw [Bool.eq_iff_iff]; simp [← UInt8.toNat_inj]
  rw [e45, e95]
  clear e45 e95
  cases h1 : ltr b with
  | true =>
    rw [h1] at HL
    clear h1
    go_enter Tryz.func61, Tryz.ntmps61
    go_wp2_with fail
    refine HL.out.mono ?_
    rintro e w1 ⟨rfl, rfl⟩
    go_wp2
    go_ret
    exact ⟨rfl, rfl⟩
  | false =>
    rw [h1] at HL
    clear h1
    cases h2 : dgt b with
    | true =>
      rw [h2] at HD
      clear h2
      go_enter Tryz.func61, Tryz.ntmps61
      go_wp2_with fail
      refine HL.out.mono ?_
      rintro e w1 ⟨rfl, rfl⟩
      go_wp2_with fail
      refine HD.out.mono ?_
      rintro e w1 ⟨rfl, rfl⟩
      go_wp2
      go_ret
      exact ⟨rfl, rfl⟩
    | false =>
      rw [h2] at HD
      clear h2
      obtain ⟨x, hx⟩ : ∃ x : Int, (b.toNat : Int) = x := ⟨_, rfl⟩
      have E3 : decide (b.toNat = 45) = decide (x = 45) := by rw [Bool.eq_iff_iff]; simp; omega
      have E4 : decide (b.toNat = 95) = decide (x = 95) := by rw [Bool.eq_iff_iff]; simp; omega
      rw [E3, E4]
      rw [hx] at HL HD ⊢
      clear E3 E4 hx hb
      by_cases h3 : x = 45
      · have H3 := Lib.hid h3
        clear h3
        go_enter Tryz.func61, Tryz.ntmps61
        go_wp2_with fail
        refine HL.out.mono ?_
        rintro e w1 ⟨rfl, rfl⟩
        go_wp2_with fail
        refine HD.out.mono ?_
        rintro e w1 ⟨rfl, rfl⟩
        have h3 := H3.out
        go_wp2
        go_ret
        exact ⟨by simp [h3], rfl⟩
      · have H3 := Lib.hid h3
        clear h3
        by_cases h4 : x = 95
        all_goals
          (have H4 := Lib.hid h4
           clear h4
           go_enter Tryz.func61, Tryz.ntmps61
           go_wp2_with fail
           refine HL.out.mono ?_
           rintro e w1 ⟨rfl, rfl⟩
           go_wp2_with fail
           refine HD.out.mono ?_
           rintro e w1 ⟨rfl, rfl⟩
           have h3 := H3.out
           have h4 := H4.out
           go_wp2
           go_ret
           exact ⟨by simp [h3, h4], rfl⟩)
set_option maxRecDepth 100000 in
set_option maxHeartbeats 1000000 in
theorem escaped1_ : Tells 81 hexd := fun b W => by
  have hb := b.toNat_lt
  have HD := Lib.hid (lex_digit b W)
  unfold hexd
  cases h2 : dgt b with
  | true =>
    rw [h2] at HD
    clear h2
    go_enter Tryz.func81, Tryz.ntmps81
    go_wp2_with fail
    refine HD.out.mono ?_
    rintro e w1 ⟨rfl, rfl⟩
    go_wp2
    go_ret
    exact ⟨rfl, rfl⟩
  | false =>
    rw [h2] at HD
    clear h2
    by_cases h1 : 97 ≤ b.toNat <;> by_cases h2 : b.toNat ≤ 102 <;> by_cases h3 : 65 ≤ b.toNat <;> by_cases h4 : b.toNat ≤ 70
    all_goals
      first
      | (exfalso; omega)
      | (go_enter Tryz.func81, Tryz.ntmps81
         go_wp2_with fail
         refine HD.out.mono ?_
         rintro e w1 ⟨rfl, rfl⟩
         go_wp2
         go_ret
         exact ⟨by simp [h1, h2, h3, h4] <;> omega, rfl⟩)
theorem many_letter : Many 45 ltr := lex_many lex_letter (enters_of Tryz.func45 (by kernel_rfl) rfl)
theorem many_digit : Many 43 dgt := lex_many lex_digit (enters_of Tryz.func43 (by kernel_rfl) rfl)
theorem many_blank : Many 40 blk := lex_many blank1_ (enters_of Tryz.func40 (by kernel_rfl) rfl)
theorem many_line : Many 41 noLine := lex_many blank2_ (enters_of Tryz.func41 (by kernel_rfl) rfl)
theorem many_name : Many 60 eid := lex_many name1_ (enters_of Tryz.func60 (by kernel_rfl) rfl)
theorem many_ident : Many 61 idn := lex_many ident1_ (enters_of Tryz.func61 (by kernel_rfl) rfl)
theorem many_hex : Many 81 hexd := lex_many escaped1_ (enters_of Tryz.func81 (by kernel_rfl) rfl)
end Go.Proofs.YtekpmpghbeeeoaaGreatDoor
