import Derived.Test.YtekpmpghbeeeoaaGreatDoorLexCode
import Derived.Laws.Cover4
/- LexChars: a character by itself, and by its number, is the same sign. -/
namespace Go.Proofs.YtekpmpghbeeeoaaGreatDoor
open Go.RowKit Go.Shelf Go.Proofs.YtekpmpghbeeeoaaGreatDoorW.PrintWords Go.Proofs.YtekpmpghbeeeoaaGreatDoorW.PrintMore

theorem enc1L (r : Nat) (c1 : r < 128) : (Utf8.encode (r : Int)).data.toList = [UInt8.ofNat r] := by
  have v : Utf8.valid (r : Int) = true := by simp [Utf8.valid]; omega
  simp [Utf8.encode, v, c1]
theorem enc2L (r : Nat) (c1 : ¬ r < 128) (c2 : r < 2048) : (Utf8.encode (r : Int)).data.toList = [UInt8.ofNat (192 + r / 64), UInt8.ofNat (128 + r % 64)] := by
  have v : Utf8.valid (r : Int) = true := by simp [Utf8.valid]; omega
  simp [Utf8.encode, v, c1, c2]
theorem enc3L (r : Nat) (c2 : ¬ r < 2048) (c3 : r < 65536) (hv : r < 55296 ∨ 57344 ≤ r) : (Utf8.encode (r : Int)).data.toList = [UInt8.ofNat (224 + r / 4096), UInt8.ofNat (128 + r / 64 % 64), UInt8.ofNat (128 + r % 64)] := by
  have v : Utf8.valid (r : Int) = true := by simp [Utf8.valid]; omega
  have c1 : ¬ r < 128 := by omega
  simp [Utf8.encode, v, c1, c2, c3]
theorem enc4L (r : Nat) (c3 : ¬ r < 65536) (c4 : r ≤ 1114111) : (Utf8.encode (r : Int)).data.toList = [UInt8.ofNat (240 + r / 262144), UInt8.ofNat (128 + r / 4096 % 64), UInt8.ofNat (128 + r / 64 % 64), UInt8.ofNat (128 + r % 64)] := by
  have v : Utf8.valid (r : Int) = true := by simp [Utf8.valid]; omega
  have c1 : ¬ r < 128 := by omega
  have c2 : ¬ r < 2048 := by omega
  simp [Utf8.encode, v, c1, c2, c3]
theorem encode_list {b : ByteArray} {l : List UInt8} (h : b.data.toList = l) : b = S l := by
  subst h
  exact (S_of b).symm
theorem runes_str (r : Int) (l : List UInt8) (h : Utf8.encode r = S l) : runesBytes [r] = S l := by
  have h1 : runesBytes [r] = ByteArray.empty ++ Utf8.encode r := by unfold runesBytes; rw [List.foldl_cons, List.foldl_nil]
  rw [h1, h]
  exact S_cat [] l
theorem enc_bytes (r : Nat) (hr : r ≤ 1114111) (hs : r < 55296 ∨ 57343 < r) : ∃ l : List UInt8, runesBytes [(r : Int)] = S l ∧ nl l = enc (r : Int) := by
  unfold enc
  by_cases c1 : r < 128
  · refine ⟨_, runes_str _ _ (encode_list (enc1L r c1)), ?_⟩
    rw [Lib.encodeRuneZ_one (by omega) (by omega)]; simp [nl]; omega
  by_cases c2 : r < 2048
  · refine ⟨_, runes_str _ _ (encode_list (enc2L r c1 c2)), ?_⟩
    rw [Lib.encodeRuneZ_two (by omega) (by omega)]; simp [nl]; omega
  by_cases c3 : r < 65536
  · refine ⟨_, runes_str _ _ (encode_list (enc3L r c2 c3 (by omega))), ?_⟩
    rw [Lib.encodeRuneZ_three (by omega)]; simp [nl]; omega
  · refine ⟨_, runes_str _ _ (encode_list (enc4L r c3 hr)), ?_⟩
    rw [Lib.encodeRuneZ_four (by omega) (by omega)]; simp [nl]; omega
theorem oneT_char (r : Nat) (l : List UInt8) (he : nl l = enc (r : Int)) (hr : r ≤ 1114111) (hs : r < 55296 ∨ 57343 < r) (h10 : r ≠ 10) (h92 : r ≠ 92) : oneT (39 :: l) = some ⟨4, [], (r : Int), (39 :: l).length⟩ := by
  have hd := dec_enc (r : Int) []
  rw [List.append_nil, ← he] at hd
  have hn : normR (r : Int) = (r : Int) := by unfold normR; rw [if_neg (by omega)]
  rw [hn, nl_length] at hd
  have hg := isGood_enc (r : Int) []
  rw [List.append_nil, ← he] at hg
  have hne : l ≠ [] := by
    intro h
    have := enc_ne (r : Int)
    rw [← he, h] at this
    exact this rfl
  have hd1 : (dec (nl (l))).1 = r := by have := hd.1; omega
  simp only [oneT]
  rw [if_neg (by decide), if_neg (by decide), if_neg (by decide), if_neg (by decide), if_neg (by decide), if_pos trivial]
  unfold charT
  rw [if_neg, if_neg hne, if_neg, hd1, hd.2]
  · rfl
  · rintro (⟨h1, h2⟩ | h | h)
    · unfold isGood at hg
      rw [decide_eq_true_iff] at hg
      rcases hg with hg | hg
      · exact hg h1
      · omega
    · omega
    · omega
  · intro h3
    match heb : l, hne with
    | c :: l', _ =>
      rw [List.take_succ_cons] at h3
      injection h3 with h4 _
      subst h4
      have : dec (nl (92 :: l')) = (92, 1) := dec_92 _
      rw [this] at hd1
      omega
theorem char_scan (r : Nat) (l : List UInt8) (he : nl l = enc (r : Int)) (hr : r ≤ 1114111) (hs : r < 55296 ∨ 57343 < r) (h10 : r ≠ 10) (h92 : r ≠ 92) : (tk 0 (39 :: l)).2 = none ∧ scanT (39 :: l) = [⟨4, 0, [], (r : Int)⟩, ⟨0, (39 :: l).length, [], 0⟩] := by
  have h := tk_tok (p := 39 :: l) (t := []) 0 (by rw [List.append_nil]; exact oneT_char r l he hr hs h10 h92) rfl
  rw [List.append_nil] at h
  unfold scanT
  rw [h]
  exact ⟨rfl, rfl⟩
theorem code_scan (r : Nat) (hr : r ≤ 1114111) : (tk 0 (codeL r)).2 = none ∧ scanT (codeL r) = [⟨4, 0, [], (r : Int)⟩, ⟨0, (codeL r).length, [], 0⟩] := by
  have h := tk_tok (p := codeL r) (t := []) 0 (oneT_code hr []) rfl
  rw [List.append_nil] at h
  unfold scanT
  rw [h]
  exact ⟨rfl, rfl⟩
theorem codeL_len (r : Nat) (hr : r < 16777216) : (codeL r).length ≤ 20 := by
  have := (hexL_facts (n := r) (by omega)).2.2.2 hr
  unfold codeL
  simp only [List.length_cons, List.length_append, List.length_nil]
  omega
/-- The signs of a row of two. -/
theorem RdK.two {w : World} {v : Value} {x y : Tok} (h : RdK w v [x, y]) : ∃ a c p q, v = .slice (some a) 2 c ∧
    (∀ W, (Instr.indexAt 23 (.slice (some a) 2 c) (.int .i64 0)).run Tryz.prog W = .ok (.pointer (some p)) W) ∧ TkAt w p x ∧
    (∀ W, (Instr.indexAt 23 (.slice (some a) 2 c) (.int .i64 1)).run Tryz.prog W = .ok (.pointer (some q)) W) ∧ TkAt w q y := by
  obtain ⟨A, c, ad, rfl, hx0, hat0⟩ := h.at_ (j := 0) (by simp)
  obtain ⟨A3, c3, ad3, hv, hx3, hat3⟩ := h.at_ (j := 1) (by simp)
  injection hv with hv1 _ hv2
  injection hv1 with hv1
  subst hv1 hv2
  exact ⟨A, c, ad, ad3, rfl, hx0, hat0, hx3, hat3⟩
set_option maxRecDepth 100000 in
set_option maxHeartbeats 8000000 in
theorem lexChars_walk (r : Int) (w : World) (hW : LW w) (hr32 : -2147483648 ≤ r ∧ r < 2147483648) :
    Calls Tryz.prog 8 #[.int .i32 r] w fun e w' => e = .returned (.bool true) ∧ Below w.heap.size w w' := by
  have HK := Lib.hid (law6_known w hW)
  have HW := Lib.hid hW
  clear hW
  by_cases hout : r < 32 ∨ 1114111 < r ∨ (55296 ≤ r ∧ r ≤ 57343) ∨ r = 92
  · have hcase : r < 32 ∨ (¬ r < 32 ∧ 1114111 < r) ∨ (¬ r < 32 ∧ ¬ 1114111 < r ∧ 55296 ≤ r ∧ r ≤ 57343) ∨ r = 92 := by omega
    clear hout
    rcases hcase with h | ⟨h, h2⟩ | ⟨h, h2, h3, h4⟩ | rfl
    all_goals
      go_enter Tryz.func8, Tryz.ntmps8
      go_wp2_with fail
      refine HK.out.mono ?_
      rintro e w1 ⟨he, hb1⟩
      subst he
      have HB1 := Lib.hid hb1
      clear hb1
      go_wp2_with fail
      go_ret
      exact ⟨rfl, HB1.out⟩
  · obtain ⟨n, hn⟩ : ∃ n : Nat, (n : Int) = r := ⟨r.toNat, by omega⟩
    have h1 : ¬ r < 32 := by omega
    have h2 : ¬ 1114111 < r := by omega
    have h3 : r < 55296 ∨ (55296 ≤ r ∧ ¬ r ≤ 57343) := by omega
    have h4 : ¬ r = 92 := by omega
    have h4b : (r == 92) = false := by rw [beq_eq_false_iff_ne]; exact h4
    obtain ⟨l, hl1, he⟩ := enc_bytes n (by omega) (by omega)
    obtain ⟨s1, s2⟩ := char_scan n l he (by omega) (by omega) (by omega) (by omega)
    obtain ⟨s3, s4⟩ := code_scan n (by omega)
    have hlen := codeL_len n (by omega)
    have hel : (39 :: l).length ≤ 10 := by
      have := (enc_len (n : Int)).2
      rw [← he, nl_length] at this
      simp; omega
    have HS1 := Lib.hid (fun W hW => scan_ok (39 :: l) W hW (by omega) s1)
    have HS2 := Lib.hid (fun W hW => scan_ok (codeL n) W hW (by omega) s3)
    rw [s2, hn] at HS1
    rw [s4, hn] at HS2
    have HCD := Lib.hid (fun W => ref_code n (by omega) W)
    rw [hn] at HCD hl1
    have hcv : ∀ W : World, (convert 42 9 (.slice (some ⟨W.heap.size, 0, none⟩) 1 1)).run Tryz.prog (W.alloc (.cells #[.int .i32 r] 21)) = .ok (.string (S (l))) (W.alloc (.cells #[.int .i32 r] 21)) := fun W => by
      have := run_convert_runes (P := Tryz.prog) (W.alloc (.cells #[.int .i32 r] 21)) 42 9 21 ⟨W.heap.size, 0, none⟩ 1 1 [r] (by simp) Tryz.underlying42 Tryz.underlying21 Tryz.underlying9 (fun j hj => by
        have : j = 0 := by simp at hj; omega
        subst this
        exact (Boxed.new W _ _).cell)
      rw [this]
      show Result.ok (Value.string (runesBytes [r])) _ = _
      rw [hl1]
    obtain ⟨e1, e2⟩ := add_str [39] (l) (by simp) (by simp at hel; omega)
    have cc : S [39] = { data := #[39] } := rfl
    rw [cc, show [39] ++ l = 39 :: l from rfl] at e1
    rw [cc] at e2
    have hsz := S_size (39 :: l)
    generalize (39 :: l).length = ln at *
    generalize S (39 :: l) = sa at *
    generalize S (l) = sb at *
    generalize S (codeL n) = sc at *
    generalize (codeL n).length = lc at *
    clear s1 s2 s3 s4 cc hout he hl1 hel hlen hn
    rcases h3 with h3 | ⟨h3, h5⟩
    all_goals
      go_enter Tryz.func8, Tryz.ntmps8
      go_wp2_with fail
      refine HK.out.mono ?_
      rintro e w1 ⟨he, hb1⟩
      subst he
      have HB1 := Lib.hid (hb1.trans ((Below.refl w.heap.size w1).alloc hb1.size (.cells #[.int .i32 r] 21)))
      have hcv1 := hcv w1
      clear hb1 hcv
      go_wp2_with fail
      refine (HS1.out _ (HW.out.below HB1.out)).mono ?_
      rintro e w2 ⟨⟨va, he, hra⟩, hb2⟩
      subst he
      have HB2 := Lib.hid (HB1.out.trans (hb2.mono HB1.out.size))
      have HRA := Lib.hid hra
      clear hb2 hra hcv1
      go_wp2_with fail
      refine (HCD.out _).mono ?_
      rintro e w3 ⟨he, rfl⟩
      subst he
      go_wp2_with fail
      refine (HS2.out _ (HW.out.below HB2.out)).mono ?_
      rintro e w4 ⟨⟨vb, he, hrb⟩, hb4⟩
      subst he
      have HB4 := Lib.hid (HB2.out.trans (hb4.mono HB2.out.size))
      obtain ⟨a, ca, p, q, rfl, x0, ⟨p0, p1, p2, p3⟩, x1, ⟨q0, q1, q2, q3⟩⟩ := (HRA.out.below hb4).two
      obtain ⟨a', cb, p', q', rfl, y0, ⟨r0, r1, r2, r3⟩, y1, -⟩ := hrb.two
      dsimp only at p0 p3 q1 r3
      clear hb4 hrb e1 e2
      go_wp2_with fail
      go_ret
      exact ⟨rfl, HB4.out⟩
end Go.Proofs.YtekpmpghbeeeoaaGreatDoor
