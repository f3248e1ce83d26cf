import Derived.Test.YtekpmpghbeeeoaaGreatDoorLexPut
import Derived.Test.YtekpmpghbeeeoaaGreatDoorLexScan
import Derived.Shelf.Strings.MapGrows
/- package lex: Print. -/
namespace Go.Proofs.YtekpmpghbeeeoaaGreatDoor
open Go.RowKit Go.Shelf Go.Proofs.YtekpmpghbeeeoaaGreatDoorW.PrintWords Go.Proofs.YtekpmpghbeeeoaaGreatDoorW.PrintMore

/-- A sign lies at an address. -/
def TkAt (w : World) (ad : Addr) (t : Tok) : Prop := w.cell? ad = some (.int .i64 t.kind) ∧ w.cell? ⟨ad.block, ad.off + 1, none⟩ = some (.int .i64 (t.at_ : Int)) ∧ w.cell? ⟨ad.block, ad.off + 2, none⟩ = some (.string (S t.text)) ∧ w.cell? ⟨ad.block, ad.off + 3, none⟩ = some (.int .i32 t.r)
theorem TkAt.below {w w1 : World} {ad : Addr} {t : Tok} (h : TkAt w ad t) (hb : Below w.heap.size w w1) : TkAt w1 ad t := ⟨pw_cell_below hb h.1, pw_cell_below hb h.2.1, pw_cell_below hb h.2.2.1, pw_cell_below hb h.2.2.2⟩
/-- A row of signs is read. -/
def RdK (w : World) (v : Value) (ts : List Tok) : Prop := ∃ A c, v = .slice A ts.length c ∧ ts.length ≤ c ∧ ts.length ≤ 9223372036854775807 ∧
  (0 < ts.length → ∃ a, A = some a ∧ ∀ (j : Nat) t, ts[j]? = some t → TkAt w (a.add (j * 4)) t)
theorem RdK.below {w w1 : World} {v : Value} {ts : List Tok} (h : RdK w v ts) (hb : Below w.heap.size w w1) : RdK w1 v ts := by
  obtain ⟨A, c, rfl, hc, hm, hr⟩ := h
  refine ⟨A, c, rfl, hc, hm, fun h0 => ?_⟩
  obtain ⟨a, rfl, hx⟩ := hr h0
  exact ⟨a, rfl, fun j r hj => (hx j r hj).below hb⟩
theorem RdK.at_ {w : World} {v : Value} {ts : List Tok} (h : RdK w v ts) {j : Nat} (hj : j < ts.length) :
    ∃ a c ad, v = .slice (some a) ts.length c ∧ (∀ W, (Instr.indexAt 23 (.slice (some a) ts.length c) (.int .i64 (j : Int))).run Tryz.prog W = .ok (.pointer (some ad)) W) ∧ TkAt w ad ts[j] := by
  obtain ⟨A, c, rfl, hc, _, hr⟩ := h
  obtain ⟨a, rfl, hx⟩ := hr (by omega)
  refine ⟨a, c, a.add (j * 4), rfl, fun W => ?_, hx j _ (List.getElem?_eq_getElem hj)⟩
  have h6 : 0 ≤ (j : Int) ∧ (j : Int) < (ts.length : Int) := ⟨by omega, by omega⟩
  go_simp
theorem RdK.nil (w : World) : RdK w (.slice none 0 0) [] := ⟨none, 0, rfl, Nat.le_refl _, by simp, fun h => absurd h (by simp)⟩
theorem flat_tk : ∀ (ts : List Tok) (j : Nat) (t : Tok), ts[j]? = some t → (ts.flatMap tkC)[j * 4]? = some (.int .i64 t.kind) ∧ (ts.flatMap tkC)[j * 4 + 1]? = some (.int .i64 (t.at_ : Int)) ∧ (ts.flatMap tkC)[j * 4 + 2]? = some (.string (S t.text)) ∧ (ts.flatMap tkC)[j * 4 + 3]? = some (.int .i32 t.r)
  | [], j, t, h => by simp at h
  | x :: ts, 0, t, h => by
    simp only [List.getElem?_cons_zero, Option.some.injEq] at h
    subst h
    exact ⟨rfl, rfl, rfl, rfl⟩
  | x :: ts, j + 1, t, h => by
    have := flat_tk ts j t (by simpa using h)
    have key : ∀ i, ((x :: ts).flatMap tkC)[i + 4]? = (ts.flatMap tkC)[i]? := fun i => by
      rw [List.flatMap_cons]
      show (.int .i64 x.kind :: .int .i64 (x.at_ : Int) :: .string (S x.text) :: .int .i32 x.r :: ts.flatMap tkC : List Value)[i + 4]? = _
      simp
    rw [show (j + 1) * 4 = j * 4 + 4 by omega, show j * 4 + 4 + 1 = (j * 4 + 1) + 4 by omega, show j * 4 + 4 + 2 = (j * 4 + 2) + 4 by omega, show j * 4 + 4 + 3 = (j * 4 + 3) + 4 by omega, key, key, key, key]
    exact this
theorem OwnK.rd {w : World} {base : Nat} {v : Value} {ts : List Tok} (h : OwnK w base v ts) (hm : ts.length ≤ 9223372036854775807) : RdK w v ts := by
  have h' := h
  rcases h.2 with ⟨rfl, h0⟩ | ⟨g, cap, cur, rfl, _, hg, hc, _, _, _⟩
  · have : ts = [] := List.length_eq_zero_iff.1 h0
    subst this
    exact RdK.nil w
  · refine ⟨some ⟨g, 0, none⟩, cap, rfl, hc, hm, fun _ => ⟨_, rfl, fun j r hj => ?_⟩⟩
    obtain ⟨h1, h2, h3, h4⟩ := flat_tk ts j r hj
    rw [add_plain]
    have e1 := h'.cells rfl _ _ h1
    have e2 := h'.cells rfl _ _ h2
    have e3 := h'.cells rfl _ _ h3
    have e4 := h'.cells rfl _ _ h4
    rw [add_plain] at e1 e2 e3 e4
    exact ⟨e1, e2, e3, e4⟩
/-- A builder that holds bytes. -/
def Bld (B b : Nat) (l : List UInt8) (w : World) : Prop := Lib.IsBuilderF 52 5 B b (Lib.byteCells l) w
theorem bld_str (B b : Nat) (l : List UInt8) (w : World) (h : Bld B b l w) (hB : B ≤ w.heap.size) :
    Calls Tryz.prog 20 #[.pointer (some ⟨b, 0, none⟩)] w fun e w' => e = .returned (.string (S l)) ∧ (Bld B b l w' ∧ Below B w w' ∧ Lib.OthersKept 5 (some b) w w') :=
  Any.Builder_String_any_k { TryzlayUp with } TryzlayUpX B b l w h hB
theorem byteCells_snoc (l : List UInt8) (c : UInt8) : Lib.byteCells l ++ [.int .u8 ((c.toNat : Nat) : Int)] = Lib.byteCells (l ++ [c]) := by simp [Lib.byteCells]
theorem byteCells_app (l s : List UInt8) : Lib.byteCells l ++ Lib.strCells (S s) = Lib.byteCells (l ++ s) := by simp [Lib.byteCells, Lib.strCells, S]
theorem bld_byte (B b : Nat) (l : List UInt8) (w : World) (h : Bld B b l w) (hB : B ≤ w.heap.size) (hl : l.length ≤ 100000000000000) :
    Calls Tryz.prog 22 #[.pointer (some ⟨b, 0, none⟩), .int .u8 32] w fun e w' => e = .returned .nilIface ∧ (Bld B b (l ++ [32]) w' ∧ Below B w w' ∧ Lib.OthersKept 5 (some b) w w') := by
  refine (Any.Builder_WriteByte_k { TryzlayUp with } TryzlayUpX B b (Lib.byteCells l) 32 w h (by rw [Lib.byteCells_length]; omega) hB).mono ?_
  rintro e w' ⟨he, h1, h2⟩
  have e1 := byteCells_snoc l 32
  exact ⟨he, .inr (by rw [← e1]; exact h1), h2⟩
theorem bld_put (B b : Nat) (l s : List UInt8) (w : World) (h : Bld B b l w) (hB : B ≤ w.heap.size) (hl : l.length + s.length ≤ 100000000000000) :
    Calls Tryz.prog 23 #[.pointer (some ⟨b, 0, none⟩), .string (S s)] w fun e w' => (∃ v, e = .returned v) ∧ (Bld B b (l ++ s) w' ∧ Below B w w' ∧ Lib.OthersKept 5 (some b) w w') := by
  refine (Any.Builder_WriteString_k { TryzlayUp with } TryzlayUpX B b (Lib.byteCells l) (S s) w h (by rw [Lib.byteCells_length, S_size]; omega) hB).mono ?_
  rintro e w' ⟨he, h1, h2⟩
  have e1 := byteCells_app l s
  exact ⟨⟨_, he⟩, .inr (by rw [← e1]; exact h1), h2⟩
theorem suffix10 (l : List UInt8) : Lib.hasSuffix l [10] = (l.getLast? == some 10) := by
  unfold Lib.hasSuffix
  cases h : l.getLast? with
  | none =>
    rw [List.getLast?_eq_none_iff] at h
    subst h
    rfl
  | some c =>
    obtain ⟨r, rfl⟩ := List.getLast?_eq_some_iff.1 h
    simp [List.isSuffixOf, List.isPrefixOf]
    try (rw [Bool.eq_iff_iff]; simp; try exact eq_comm)
theorem putL_len (k : Int) (t : List UInt8) (r : Int) : (putL k t r).length ≤ 2 * t.length + 20 := by
  unfold putL
  repeat' split
  · simp
  · simp; omega
  · have := esc_len t
    unfold quoteL
    rw [List.length_cons, List.length_append, List.length_singleton]
    omega
  · have := (hexL_facts (n := (min (max r 0) 1114111).toNat) (by omega)).2.2.2 (by omega)
    unfold codeL
    simp only [List.length_cons, List.length_append, List.length_nil]
    omega
  · simp; omega
  · simp
  · omega
theorem printF_app (m : List Tok) : ∀ (l : List Tok) (b : List UInt8), printF b (l ++ m) = printF (printF b l) m
  | [], _ => rfl
  | x :: l, b => by
    simp only [List.cons_append, printF]
    split
    · exact printF_app m l _
    · exact printF_app m l _
theorem printF_skip {b : List UInt8} {t : Tok} (h : t.kind ≤ 0 ∨ 8 < t.kind) : printF b [t] = b := by simp only [printF, if_pos h]
theorem printF_put {b : List UInt8} {t : Tok} (h : ¬ (t.kind ≤ 0 ∨ 8 < t.kind)) : printF b [t] = (if gapB b t.kind = true then b ++ [32] else b) ++ putL t.kind t.text t.r := by simp only [printF, if_neg h, putT]
theorem printF_take {ts : List Tok} {k : Nat} (h : k < ts.length) (b : List UInt8) : printF b (ts.take (k + 1)) = printF (printF b (ts.take k)) [ts[k]] := by
  rw [List.take_succ_eq_append_getElem h, printF_app]
theorem bd_step {x k d : Nat} (h : x ≤ k * 300000) (hd : d ≤ 300000) : x + d ≤ (k + 1) * 300000 := by omega
theorem TokAt.kept {w w' : World} {g b : Nat} {k a r : Int} {tx : ByteArray} (h : TokAt w g k a tx r) (ho : Lib.OthersKept 5 (some b) w w') (hne : g ≠ b) : TokAt w' g k a tx r :=
  ho g _ h (by simpa using hne) (fun c fz e => by injection e with _ e _; exact absurd e (by decide))
set_option maxRecDepth 100000 in
set_option maxHeartbeats 4000000 in
theorem lex_print (v : Value) (ts : List Tok) (w : World) (hr : RdK w v ts) (hM : ML w) (hZ : TZ w) (hlen : ts.length ≤ 3000) (htx : ∀ t ∈ ts, t.text.length ≤ 100000) :
    Calls Tryz.prog 14 #[v] w fun e w' => e = .returned (.string (S (printL ts))) ∧ Below w.heap.size w w' := by
  have HR := Lib.hid hr
  have HM := Lib.hid hM
  have HZ := Lib.hid hZ
  have HTX := Lib.hid htx
  obtain ⟨A, c, rfl, hc, hm, -⟩ := hr
  have HB0 : Hid (Bld w.heap.size w.heap.size [] (w.alloc (.cells #[.pointer none, .slice none 0 0] 52))) := Lib.hid (Lib.IsBuilderF.of (Lib.fresh_isBuilder 52 5 w))
  have HW0 : Hid (Below w.heap.size w (w.alloc (.cells #[.pointer none, .slice none 0 0] 52))) := Lib.hid ((Below.refl _ _).alloc (Nat.le_refl _) _)
  have HS0 : Hid (w.heap.size + 1 ≤ (w.alloc (.cells #[.pointer none, .slice none 0 0] 52)).heap.size) := Lib.hid (by simp)
  clear hM hZ htx
  go_enter Tryz.func14, Tryz.ntmps14
  go_wp2_with fail
  go_loopw [9] (fun i wr => ∃ k : Nat, k ≤ ts.length ∧ i = .int .i64 (k : Int) ∧ Hid (Bld w.heap.size w.heap.size (printF [] (ts.take k)) wr) ∧ Hid ((printF [] (ts.take k)).length ≤ k * 300000) ∧ Hid (Below w.heap.size w wr) ∧ Hid (w.heap.size + 1 ≤ wr.heap.size)) (fun i _ => ts.length - (intOf i).toNat)
  case atStart => exact ⟨0, Nat.zero_le _, rfl, HB0, Lib.hid (by simp [printF]), HW0, HS0⟩
  case round =>
    obtain ⟨k, hk, rfl, HB, HL, HW, HS⟩ := hrel
    by_cases hlt : k < ts.length
    · have hlt' : (k : Int) < (ts.length : Int) := by omega
      obtain ⟨a, c', ad, hv, hx, hat⟩ := (HR.out.below HW.out).at_ hlt
      injection hv with hv1 _ hv2
      subst hv1 hv2
      have HPT := Lib.hid (printF_take hlt [])
      have HTL := Lib.hid (HTX.out ts[k] (List.getElem_mem _))
      obtain ⟨tok, htok⟩ : ∃ t, ts[k] = t := ⟨_, rfl⟩
      rw [htok] at hat HPT HTL
      clear htok
      obtain ⟨q0, q1, q2, q3⟩ := hat
      obtain ⟨kd, at_, tx, rr⟩ := tok
      dsimp only at q0 q1 q2 q3 HTL
      obtain ⟨b, hb⟩ : ∃ b, printF [] (ts.take k) = b := ⟨_, rfl⟩
      rw [hb] at HB HL HPT
      clear hb
      have HT1 : Hid (TokAt (wr.alloc (.cells #[.int .i64 kd, .int .i64 (at_ : Int), .string (S tx), .int .i32 rr] 33)) wr.heap.size kd (at_ : Int) (S tx) rr) := Lib.hid (World.alloc_heap_new wr _)
      have hBa : Below wr.heap.size wr (wr.alloc (.cells #[.int .i64 kd, .int .i64 (at_ : Int), .string (S tx), .int .i32 rr] 33)) := (Below.refl _ _).alloc (Nat.le_refl _) _
      have HB1 : Hid (Bld w.heap.size w.heap.size b (wr.alloc (.cells #[.int .i64 kd, .int .i64 (at_ : Int), .string (S tx), .int .i32 rr] 33))) := Lib.hid (Lib.IsBuilderF.below HB.out hBa)
      have HW1 := Lib.hid (HW.out.trans (hBa.mono HW.out.size))
      have HS1 := Lib.hid (Nat.le_trans HS.out hBa.size)
      have hgb : wr.heap.size ≠ w.heap.size := by have := HS.out; omega
      clear hBa
      by_cases hk0 : kd ≤ 0
      · have HSK : Hid (printF [] (ts.take (k + 1)) = b) := Lib.hid (HPT.out.trans (printF_skip (.inl hk0)))
        go_wp2_with fail
        go_round
        case rel => exact ⟨k + 1, by omega, by go_num, by rw [HSK.out]; exact HB1, by rw [HSK.out]; exact Lib.hid (bd_step (d := 0) HL.out (Nat.zero_le _)), HW1, HS1⟩
        case measure => simp [intOf]; omega
      · by_cases hk8 : 8 < kd
        · have HSK : Hid (printF [] (ts.take (k + 1)) = b) := Lib.hid (HPT.out.trans (printF_skip (.inr hk8)))
          go_wp2_with fail
          go_round
          case rel => exact ⟨k + 1, by omega, by go_num, by rw [HSK.out]; exact HB1, by rw [HSK.out]; exact Lib.hid (bd_step (d := 0) HL.out (Nat.zero_le _)), HW1, HS1⟩
          case measure => simp [intOf]; omega
        · have HSK : Hid (printF [] (ts.take (k + 1)) = (if gapB b kd = true then b ++ [32] else b) ++ putL kd tx rr) := Lib.hid (HPT.out.trans (printF_put (by rintro (h | h); exact hk0 h; exact hk8 h)))
          have HPL := Lib.hid (putL_len kd tx rr)
          have HPUT := Lib.hid (fun W hM hZ => lex_put kd (at_ : Int) rr tx (by omega) (Nat.le_trans HTL.out (by decide)) W hM hZ)
          have HCS := Lib.hid (bld_str w.heap.size w.heap.size b _ HB1.out (Nat.le_trans (Nat.le_succ _) HS1.out))
          obtain ⟨g, hg⟩ : ∃ g, wr.heap.size = g := ⟨_, rfl⟩
          rw [hg] at HT1 hgb
          go_wp2_with fail
          refine HCS.out.mono ?_
          rintro e w2 ⟨he, hb2, hbl2, ho2⟩
          subst he
          have HT2 := Lib.hid (HT1.out.kept ho2 hgb)
          have HB2 := Lib.hid hb2
          have HW2 := Lib.hid (HW1.out.trans hbl2)
          have HS2 := Lib.hid (Nat.le_trans HS1.out hbl2.size)
          obtain ⟨d0, d1, d2, d3, f0, f1, f2, f3⟩ := HT2.out.cells
          clear hb2 hbl2 ho2 HT1 HB1 HW1 HS1 HCS hg q0 q1 q2 q3 hx
          obtain ⟨sb, hsb⟩ : ∃ x, S b = x := ⟨_, rfl⟩
          have HSB := Lib.hid hsb
          by_cases hbe : b = []
          · have hE : sb.toList = [] := by rw [← hsb, hbe, ByteArray.toList_eq]; rfl
            have hEi : sb.toList.isEmpty = true := by rw [hE]; rfl
            have HGP : Hid (gapB b kd = false) := Lib.hid (by rw [hbe]; rfl)
            rw [hsb]
            clear hbe hsb
            go_wp2_with fail
            have HK : Hid (printF [] (ts.take (k + 1)) = b ++ putL kd tx rr) := Lib.hid (by rw [HSK.out, HGP.out, if_neg (by decide)])
            have HMX := Lib.hid (HM.out.below HW2.out)
            have HZX := Lib.hid (HZ.out.below HW2.out)
            refine (HPUT.out _ HMX.out HZX.out).mono ?_
            rintro e w5 ⟨he, hb5⟩
            subst he
            have HB5 : Hid (Bld w.heap.size w.heap.size (b) w5) := Lib.hid (Lib.IsBuilderF.below HB2.out hb5)
            have HW5 := Lib.hid (HW2.out.trans (hb5.mono HW2.out.size))
            have HS5 := Lib.hid (Nat.le_trans HS2.out hb5.size)
            have HLB : Hid ((b).length + (putL kd tx rr).length ≤ (k + 1) * 300000) := Lib.hid (by have h1 := HPL.out; have h2 := HTL.out; exact bd_step HL.out (by omega))
            have HCP := Lib.hid (bld_put w.heap.size w.heap.size (b) (putL kd tx rr) w5 HB5.out (Nat.le_trans (Nat.le_succ _) HS5.out) (by have := HLB.out; omega))
            generalize S (putL kd tx rr) = sp at *
            clear hb5
            go_wp2_with fail
            refine HCP.out.mono ?_
            rintro e w6 ⟨⟨vv, he⟩, hb6, hbl6, ho6⟩
            subst he
            have HB6 := Lib.hid hb6
            have HW6 := Lib.hid (HW5.out.trans hbl6)
            have HS6 := Lib.hid (Nat.le_trans HS5.out hbl6.size)
            clear hb6 hbl6 ho6
            go_wp2_with fail
            go_round
            case rel => exact ⟨k + 1, by omega, by go_num, by rw [HK.out]; exact HB6, by rw [HK.out, List.length_append]; exact HLB, HW6, HS6⟩
            case measure => simp [intOf]; omega
          · have hgn : b ≠ [] := hbe
            have hE : ¬ sb.toList = [] := by
              rw [← hsb]
              intro h
              rw [ByteArray.toList_eq] at h
              exact hbe (by simpa [S] using h)
            have hEi : sb.toList.isEmpty = false := by rw [List.isEmpty_eq_false_iff]; exact hE
            have HSUF : Hid (∀ W, Calls Tryz.prog 21 #[.string sb, .string { data := #[10] }] W fun e w' => e = .returned (.bool (b.getLast? == some 10)) ∧ w' = W) := Lib.hid (fun W => by
              rw [← hsb, ← suffix10]
              exact lib_suffix b [10] (by have := HL.out; omega) W)
            rw [hsb]
            clear hsb
            cases hl10 : (b.getLast? == some 10) with
            | true =>
              rw [hl10] at HSUF
              have HGP : Hid (gapB b kd = false) := Lib.hid (by unfold gapB; rw [hl10]; simp)
              clear hl10 hgn hbe
              go_wp2_with fail
              refine (HSUF.out _).mono ?_
              rintro e w3 ⟨he, rfl⟩
              subst he
              go_wp2_with fail
              have HK : Hid (printF [] (ts.take (k + 1)) = b ++ putL kd tx rr) := Lib.hid (by rw [HSK.out, HGP.out, if_neg (by decide)])
              have HMX := Lib.hid (HM.out.below HW2.out)
              have HZX := Lib.hid (HZ.out.below HW2.out)
              refine (HPUT.out _ HMX.out HZX.out).mono ?_
              rintro e w5 ⟨he, hb5⟩
              subst he
              have HB5 : Hid (Bld w.heap.size w.heap.size (b) w5) := Lib.hid (Lib.IsBuilderF.below HB2.out hb5)
              have HW5 := Lib.hid (HW2.out.trans (hb5.mono HW2.out.size))
              have HS5 := Lib.hid (Nat.le_trans HS2.out hb5.size)
              have HLB : Hid ((b).length + (putL kd tx rr).length ≤ (k + 1) * 300000) := Lib.hid (by have h1 := HPL.out; have h2 := HTL.out; exact bd_step HL.out (by omega))
              have HCP := Lib.hid (bld_put w.heap.size w.heap.size (b) (putL kd tx rr) w5 HB5.out (Nat.le_trans (Nat.le_succ _) HS5.out) (by have := HLB.out; omega))
              generalize S (putL kd tx rr) = sp at *
              clear hb5
              go_wp2_with fail
              refine HCP.out.mono ?_
              rintro e w6 ⟨⟨vv, he⟩, hb6, hbl6, ho6⟩
              subst he
              have HB6 := Lib.hid hb6
              have HW6 := Lib.hid (HW5.out.trans hbl6)
              have HS6 := Lib.hid (Nat.le_trans HS5.out hbl6.size)
              clear hb6 hbl6 ho6
              go_wp2_with fail
              go_round
              case rel => exact ⟨k + 1, by omega, by go_num, by rw [HK.out]; exact HB6, by rw [HK.out, List.length_append]; exact HLB, HW6, HS6⟩
              case measure => simp [intOf]; omega
            | false =>
              rw [hl10] at HSUF
              by_cases hk7 : kd = 7
              · have HGP : Hid (gapB b kd = false) := Lib.hid (by unfold gapB; rw [hk7]; simp)
                have HK7 := Lib.hid hk7
                clear hl10 hgn hbe
                subst hk7
                go_wp2_with fail
                refine (HSUF.out _).mono ?_
                rintro e w3 ⟨he, rfl⟩
                subst he
                go_wp2_with fail
                have HK : Hid (printF [] (ts.take (k + 1)) = b ++ putL 7 tx rr) := Lib.hid (by rw [HSK.out, HGP.out, if_neg (by decide)])
                have HMX := Lib.hid (HM.out.below HW2.out)
                have HZX := Lib.hid (HZ.out.below HW2.out)
                refine (HPUT.out _ HMX.out HZX.out).mono ?_
                rintro e w5 ⟨he, hb5⟩
                subst he
                have HB5 : Hid (Bld w.heap.size w.heap.size (b) w5) := Lib.hid (Lib.IsBuilderF.below HB2.out hb5)
                have HW5 := Lib.hid (HW2.out.trans (hb5.mono HW2.out.size))
                have HS5 := Lib.hid (Nat.le_trans HS2.out hb5.size)
                have HLB : Hid ((b).length + (putL 7 tx rr).length ≤ (k + 1) * 300000) := Lib.hid (by have h1 := HPL.out; have h2 := HTL.out; exact bd_step HL.out (by omega))
                have HCP := Lib.hid (bld_put w.heap.size w.heap.size (b) (putL 7 tx rr) w5 HB5.out (Nat.le_trans (Nat.le_succ _) HS5.out) (by have := HLB.out; omega))
                generalize S (putL 7 tx rr) = sp at *
                clear hb5
                go_wp2_with fail
                refine HCP.out.mono ?_
                rintro e w6 ⟨⟨vv, he⟩, hb6, hbl6, ho6⟩
                subst he
                have HB6 := Lib.hid hb6
                have HW6 := Lib.hid (HW5.out.trans hbl6)
                have HS6 := Lib.hid (Nat.le_trans HS5.out hbl6.size)
                clear hb6 hbl6 ho6
                go_wp2_with fail
                go_round
                case rel => exact ⟨k + 1, by omega, by go_num, by rw [HK.out]; exact HB6, by rw [HK.out, List.length_append]; exact HLB, HW6, HS6⟩
                case measure => simp [intOf]; omega
              · have HGP : Hid (gapB b kd = true) := Lib.hid (by unfold gapB; rw [hl10]; simp [hgn, hk7])
                have hk7b : (kd != 7) = true := by simp [hk7]
                have HCB := Lib.hid (bld_byte w.heap.size w.heap.size b w2 HB2.out (Nat.le_trans (Nat.le_succ _) HS2.out) (by have := HL.out; omega))
                clear hl10 hgn hbe
                go_wp2_with fail
                refine (HSUF.out _).mono ?_
                rintro e w3 ⟨he, rfl⟩
                subst he
                go_wp2_with fail
                refine HCB.out.mono ?_
                rintro e w4 ⟨he, hb4, hbl4, ho4⟩
                subst he
                have HT4 := Lib.hid (HT2.out.kept ho4 hgb)
                have HB4 := Lib.hid hb4
                have HW4 := Lib.hid (HW2.out.trans hbl4)
                have HS4 := Lib.hid (Nat.le_trans HS2.out hbl4.size)
                clear d0 d1 d2 d3 f0 f1 f2 f3 hb4 hbl4 ho4
                obtain ⟨d0, d1, d2, d3, f0, f1, f2, f3⟩ := HT4.out.cells
                go_wp2_with fail
                have HK : Hid (printF [] (ts.take (k + 1)) = (b ++ [32]) ++ putL kd tx rr) := Lib.hid (by rw [HSK.out, HGP.out, if_pos rfl])
                have HMX := Lib.hid (HM.out.below HW4.out)
                have HZX := Lib.hid (HZ.out.below HW4.out)
                refine (HPUT.out _ HMX.out HZX.out).mono ?_
                rintro e w5 ⟨he, hb5⟩
                subst he
                have HB5 : Hid (Bld w.heap.size w.heap.size ((b ++ [32])) w5) := Lib.hid (Lib.IsBuilderF.below HB4.out hb5)
                have HW5 := Lib.hid (HW4.out.trans (hb5.mono HW4.out.size))
                have HS5 := Lib.hid (Nat.le_trans HS4.out hb5.size)
                have HLB : Hid (((b ++ [32])).length + (putL kd tx rr).length ≤ (k + 1) * 300000) := Lib.hid (by have h1 := HPL.out; have h2 := HTL.out; have h3 := bd_step (d := 1 + (putL kd tx rr).length) HL.out (by omega); rw [List.length_append, List.length_singleton]; omega)
                have HCP := Lib.hid (bld_put w.heap.size w.heap.size ((b ++ [32])) (putL kd tx rr) w5 HB5.out (Nat.le_trans (Nat.le_succ _) HS5.out) (by have := HLB.out; omega))
                generalize S (putL kd tx rr) = sp at *
                clear hb5
                go_wp2_with fail
                refine HCP.out.mono ?_
                rintro e w6 ⟨⟨vv, he⟩, hb6, hbl6, ho6⟩
                subst he
                have HB6 := Lib.hid hb6
                have HW6 := Lib.hid (HW5.out.trans hbl6)
                have HS6 := Lib.hid (Nat.le_trans HS5.out hbl6.size)
                clear hb6 hbl6 ho6
                go_wp2_with fail
                go_round
                case rel => exact ⟨k + 1, by omega, by go_num, by rw [HK.out]; exact HB6, by rw [HK.out, List.length_append]; exact HLB, HW6, HS6⟩
                case measure => simp [intOf]; omega
    · have hge : ¬ (k : Int) < (ts.length : Int) := by omega
      obtain rfl : k = ts.length := by omega
      have HF : Hid (printF [] (ts.take ts.length) = printL ts) := Lib.hid (by rw [List.take_length]; rfl)
      have HCS := Lib.hid (bld_str w.heap.size w.heap.size _ _ HB.out (Nat.le_trans (Nat.le_succ _) HS.out))
      rw [HF.out] at HCS
      go_wp2_with fail
      refine HCS.out.mono ?_
      rintro e w2 ⟨he, hb2, hbl2, ho2⟩
      subst he
      have HW2 := Lib.hid (HW.out.trans hbl2)
      go_wp2_with fail
      go_ret
      exact ⟨rfl, HW2.out⟩
end Go.Proofs.YtekpmpghbeeeoaaGreatDoor
