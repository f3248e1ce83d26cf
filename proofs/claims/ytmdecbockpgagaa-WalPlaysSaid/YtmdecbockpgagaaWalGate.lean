import Derived.Test.YtmdecbockpgagaaWalOpen
import Derived.Test.YtmdecbockpgagaaWEqStruct
/- hornbooklaw22: rec, known. -/
namespace Go.Proofs.Ytmdecbockpgagaa
open Go.RowKit Go.Maps Go.Proofs.YtmdecbockpgagaaW.PrintWords Go.Proofs.YtmdecbockpgagaaW.PrintMore
variable {B p lb : Nat} {w0 : World} {G : DG} {d : DS} {w w' : World}

theorem OwnR.one (w : World) (base : Nat) (hb : base ≤ w.heap.size) (k : Int) (s t : ByteArray) : OwnR (w.alloc (.cells #[.int .u8 k, .string s, .string t] 50)) base (.slice (some ⟨w.heap.size, 0, none⟩) 1 1) [⟨k, s, t⟩] := by
  refine ⟨rfl, .inr ⟨w.heap.size, 1, _, rfl, hb, alloc_new w _, Nat.le_refl _, ?_, ?_, ?_⟩⟩
  · decide
  · rfl
  · rfl
theorem OwnR.rd' {w : World} {base : Nat} {v : Value} {r : Rc} (h : OwnR w base v [r]) : RdR w v [r] := OwnR.rd h (by simp)
set_option maxRecDepth 100000 in
set_option maxHeartbeats 1000000 in
theorem law_rec (s t : ByteArray) (w : World) : Calls Try.prog 14 #[.string s, .string t] w fun e w' => e = .returned (.slice (some ⟨w.heap.size, 0, none⟩) 1 1) ∧ w' = w.alloc (.cells #[.int .u8 1, .string s, .string t] 50) := by
  go_enter Try.func14, Try.ntmps14
  go_wp2_with fail
  go_ret
  exact ⟨rfl, rfl⟩
abbrev lgN : Nm := [108, 111, 103]
def rcK : Rc := ⟨1, S [101, 110], S [120]⟩
def wk1 : Int × DS := openW lgN (newD 10000)
def wk2 : Int × DS := appW lgN [rcK] wk1.2
def wk3 : DS := wk2.2.crash []
def wk4 : Int × DS := openW lgN wk3
def wk5 : Int × DS := freshW lgN wk4.2
theorem wk_facts : wk1.1 = 0 ∧ wk2.1 = 0 ∧ wk4.1 = 0 ∧ wk5.1 = 0 ∧ ((newD 10000).read lgN) = (200, []) ∧ wk3.read lgN = (0, encG [rcK]) := by decide +kernel
theorem wk_steps : (newD 10000).steps = 0 ∧ wk1.2.steps ≤ 100 ∧ wk2.2.steps ≤ 100 ∧ wk3.steps ≤ 100 ∧ wk4.2.steps ≤ 100 ∧ wk1.2.quota = 10000 := by decide +kernel
theorem rcK_group : groupB [rcK] = true := by decide +kernel
theorem endOf_enc {l : List Rc} (h : groupB l = true) : gsOf (encG l) = [l] ∧ endOf (encG l) = (encG l).length := by
  have e := gB_enc h []
  rw [List.append_nil, gB_nil] at e
  unfold gsOf endOf
  rw [e]
  exact ⟨rfl, rfl⟩
/-- The first record of the first group. -/
theorem own_first {base : Nat} {v : Value} {r : Rc} (h : OwnA G w base v [[r]]) : ∃ g c g2 c2 ad, v = .slice (some ⟨g, 0, none⟩) 1 c ∧
    (∀ W, (Instr.indexAt 27 (.slice (some ⟨g, 0, none⟩) 1 c) (.int .i64 0)).run Try.prog W = .ok (.pointer (some ⟨g, 0, none⟩)) W) ∧
    (∀ W, (Instr.indexAt 32 (.slice (some g2) 1 c2) (.int .i64 0)).run Try.prog W = .ok (.pointer (some ad)) W) ∧
    w.cell? ⟨g, 0, none⟩ = some (.slice (some g2) 1 c2) ∧ RcAt w ad r := by
  obtain ⟨us, h1, h2, -, h4⟩ := h
  match us, h1 with
  | [y], _ =>
  obtain ⟨h5, -⟩ := h4 0 y [r] rfl rfl
  obtain ⟨a, c2, ad, rfl, hx, hat⟩ := (OwnR.rd h5 (by simp)).at_ (j := 0) (by simp)
  have h2' := h2
  rcases h2.2 with ⟨rfl, h0⟩ | ⟨g, cap, cur, rfl, _, hg, hc, _, _, _⟩
  · cases h0
  · refine ⟨g, cap, a, c2, ad, rfl, fun W => ?_, hx, by have := h2'.cells rfl 0 _ rfl; rwa [add_plain] at this, hat⟩
    have h3 : ({ block := g, off := 0, spot := none } : Addr).add 0 = ⟨g, 0, none⟩ := rfl
    go_simp
set_option maxRecDepth 100000 in
set_option maxHeartbeats 4000000 in
theorem law22_known (w : World) : Calls Try.prog 10 #[] w fun e w' => e = .returned (.bool true) ∧ Below w.heap.size w w' := by
  obtain ⟨f1, f2, f4, f5, r1, r3⟩ := wk_facts
  obtain ⟨s0, s1, s2, s3, s4, q1⟩ := wk_steps
  have K0 := Lib.hid (k_new w 10000)
  have F1 := Lib.hid f1
  have F2 := Lib.hid f2
  have F4 := Lib.hid f4
  have F5 := Lib.hid f5
  have R1 := Lib.hid r1
  have R3 := Lib.hid r3
  have S0 := Lib.hid s0
  have S1 := Lib.hid s1
  have S2 := Lib.hid s2
  have S3 := Lib.hid s3
  have S4 := Lib.hid s4
  have Q1 := Lib.hid q1
  clear f1 f2 f4 f5 r1 r3 s0 s1 s2 s3 s4 q1
  go_enter Try.func10, Try.ntmps10
  go_wp2_with fail
  refine K0.out.mono ?_
  rintro e w1 ⟨p, G0, rfl, hp, hk⟩
  have HK := Lib.hid hk
  have KO := Lib.hid (wal_open hk (by rw [S0.out]; omega) (nm := lgN) (by decide) (fun h => by rw [R1.out] at h; exact absurd h (by decide)))
  clear hk K0 hp
  go_wp2_with fail
  refine KO.out.mono ?_
  rintro e w2 (⟨-, v2, lb, G2, rfl, hlb, hls, ha, ht⟩ | ⟨hno, -⟩)
  case inr => exact absurd F1.out hno
  rw [show gsOf ((newD 10000).read lgN).2 = [] by rw [R1.out]; exact congrArg (List.map _) gB_nil] at ha hls
  obtain ⟨A2, c2, rfl⟩ := ha.sl
  have HL2 : Hid (Ls w.heap.size p lb w G2 wk1.2 lgN 0 false w2) := Lib.hid hls
  have KR := Lib.hid (law_rec (S [101, 110]) (S [120]) w2)
  clear hls ha ht KO HK
  go_wp2_with fail
  refine KR.out.mono ?_
  rintro e w3 ⟨rfl, rfl⟩
  have hbn := (Below.refl w2.heap.size w2).alloc (Nat.le_refl _) (.cells #[.int .u8 1, .string (S [101, 110]), .string (S [120])] 50)
  have KA := Lib.hid (wal_append (HL2.out.below hbn) (by have := S1.out; omega) (by decide) (OwnR.one w2 w2.heap.size (Nat.le_refl _) 1 (S [101, 110]) (S [120])).rd' (Far.new HL2.out.dk.at_) rcK_group (by rw [Q1.out]; omega) (by omega))
  clear hbn KR
  go_wp2_with fail
  refine KA.out.mono ?_
  rintro e w4 ⟨he, G4, hls, ht⟩
  obtain rfl := he.trans (congrArg (fun z => Ending.returned (.int .i64 z)) F2.out)
  have HL4 : Hid (Ls w.heap.size p lb w G4 wk2.2 lgN 1 false w4) := Lib.hid (by
    have := hls
    rw [show (appW lgN [⟨1, S [101, 110], S [120]⟩] wk1.2).1 = 0 from F2.out] at this
    exact this)
  have KN := Lib.hid (wal_append_no HL4.out (RdR.nil w4) (by decide +kernel))
  clear hls ht KA he HL2
  go_wp2_with fail
  refine KN.out.mono ?_
  rintro e w5 ⟨rfl, hb⟩
  have HL5 := Lib.hid (HL4.out.below hb)
  have KC := Lib.hid (k_crash HL5.out.dk (.slice none 0 0) [] (RdB.nil _) By.nil (Far.nil _))
  clear hb KN HL4
  go_wp2_with fail
  refine KC.out.mono ?_
  rintro e w6 ⟨⟨u6, rfl⟩, G6, hd6, ht6⟩
  have HD6 : Hid (Dk w.heap.size p w G6 wk3 w6) := Lib.hid hd6
  have KO := Lib.hid (wal_open HD6.out (by have := S3.out; omega) (nm := lgN) (by decide) (fun _ => by rw [R3.out]; exact (endOf_enc rcK_group).2))
  clear hd6 ht6 KC HL5
  go_wp2_with fail
  refine KO.out.mono ?_
  rintro e w7 (⟨-, v7, lb7, G7, rfl, hlb7, hls, ha, ht⟩ | ⟨hno, -⟩)
  case inr => exact absurd F4.out hno
  rw [show gsOf (wk3.read lgN).2 = [[rcK]] by rw [R3.out]; exact (endOf_enc rcK_group).1] at ha hls
  have HL7 : Hid (Ls w.heap.size p lb7 w G7 wk4.2 lgN 1 false w7) := Lib.hid hls
  obtain ⟨g0, c0, g1, c1, ad0, rfl, hx0, hx1, hk0, hk1, hk2, hk3⟩ := own_first ha
  have KL := Lib.hid (wal_len lb7 lgN 1 false w7 HL7.out.lg)
  have KCl := Lib.hid (wal_clear HL7.out (by have := S4.out; omega) (by decide))
  have hq : ((S [101, 110]).toList == [101, 110]) = true := by decide +kernel
  simp only [rcK] at hk1 hk2 hk3
  clear hls ha ht KO HD6 hlb7
  go_wp2_with fail
  refine KL.out.mono ?_
  rintro e w8 ⟨rfl, rfl⟩
  clear KL hk1 hk2 hk3 hx0 hx1 hk0
  go_wp2_with fail
  refine KCl.out.mono ?_
  rintro e w9 ⟨he, G9, hls, ht⟩
  obtain rfl := he.trans (congrArg (fun z => Ending.returned (.int .i64 z)) F5.out)
  have HL9 : Hid (Ls w.heap.size p lb7 w G9 wk5.2 lgN 0 false w9) := Lib.hid (by
    have := hls
    rw [show (freshW lgN wk4.2).1 = 0 from F5.out] at this
    exact this)
  have KL := Lib.hid (wal_len lb7 lgN 0 false w9 HL9.out.lg)
  have KB := Lib.hid (wal_broken lb7 lgN 0 false w9 HL9.out.lg)
  clear hls ht he KCl HL7
  go_wp2_with fail
  refine KL.out.mono ?_
  rintro e w10 ⟨rfl, rfl⟩
  clear KL
  go_wp2_with fail
  refine KB.out.mono ?_
  rintro e w11 ⟨rfl, rfl⟩
  have HBL := Lib.hid HL9.out.dk.bel
  clear KB
  go_wp2_with fail
  go_ret
  exact ⟨rfl, HBL.out⟩
end Go.Proofs.Ytmdecbockpgagaa

/- hornbooklaw22: groups. -/
namespace Go.Proofs.Ytmdecbockpgagaa
open Go.RowKit Go.Maps Go.Proofs.YtmdecbockpgagaaW.PrintWords Go.Proofs.YtmdecbockpgagaaW.PrintMore
variable {G : DG} {w w' : World}

instance : DecidableEq Rc := fun a b => decidable_of_iff (a.kind = b.kind ∧ a.tag = b.tag ∧ a.text = b.text) (by cases a; cases b; simp)
/-- A row of groups is read. -/
def RdG (w : World) (v : Value) (gs : List (List Rc)) : Prop := ∃ A c, v = .slice A gs.length c ∧ (0 < gs.length → ∃ g, A = some ⟨g, 0, none⟩ ∧ ∀ (i : Nat) (x : List Rc), gs[i]? = some x → ∃ u, w.cell? ⟨g, i, none⟩ = some u ∧ RdR w u x)
theorem RdG.below {v : Value} {gs : List (List Rc)} (h : RdG w v gs) (hb : Below w.heap.size w w') : RdG w' v gs := by
  obtain ⟨A, c, rfl, hr⟩ := h
  refine ⟨A, c, rfl, fun h0 => ?_⟩
  obtain ⟨g, rfl, hx⟩ := hr h0
  exact ⟨g, rfl, fun i x hi => by
    obtain ⟨u, h1, h2⟩ := hx i x hi
    exact ⟨u, pw_cell_below hb h1, h2.below hb⟩⟩
theorem OwnA.rdG {base : Nat} {v : Value} {gs : List (List Rc)} (h : OwnA G w base v gs) (hm : ∀ g ∈ gs, g.length ≤ 9223372036854775807) : RdG w v gs := by
  obtain ⟨us, h1, h2, -, h4⟩ := h
  have h2' := h2
  rcases h2.2 with ⟨rfl, h0⟩ | ⟨g, cap, cur, rfl, _, hg, hc, _, _, _⟩
  · have : gs = [] := List.length_eq_zero_iff.1 (by omega)
    subst this
    exact ⟨none, 0, rfl, fun h => absurd h (by simp)⟩
  · refine ⟨some ⟨g, 0, none⟩, cap, by rw [h1], fun _ => ⟨g, rfl, fun i x hi => ?_⟩⟩
    have hlt := (List.getElem?_eq_some_iff.1 hi).1
    refine ⟨us[i]'(by omega), by have := h2'.cells rfl _ _ (List.getElem?_eq_getElem (by omega : i < us.length)); rwa [add_plain] at this, ?_⟩
    exact (h4 i _ x (List.getElem?_eq_getElem (by omega)) hi).1.rd (hm x (List.mem_of_getElem? hi))
theorem RdG.at_ {v : Value} {gs : List (List Rc)} (h : RdG w v gs) {i : Nat} (hi : i < gs.length) : ∃ g c A c2, v = .slice (some ⟨g, 0, none⟩) gs.length c ∧
    (∀ W, (Instr.indexAt 27 (.slice (some ⟨g, 0, none⟩) gs.length c) (.int .i64 (i : Int))).run Try.prog W = .ok (.pointer (some ⟨g, i, none⟩)) W) ∧
    w.cell? ⟨g, i, none⟩ = some (.slice A gs[i].length c2) ∧ RdR w (.slice A gs[i].length c2) gs[i] := by
  obtain ⟨A, c, rfl, hr⟩ := h
  obtain ⟨g, rfl, hx⟩ := hr (by omega)
  obtain ⟨u, h1, h2⟩ := hx i _ (List.getElem?_eq_getElem hi)
  have h2' := h2
  obtain ⟨A2, c2, rfl, -⟩ := h2
  refine ⟨g, c, A2, c2, rfl, fun W' => ?_, h1, h2'⟩
  have h2 : 0 ≤ (i : Int) ∧ (i : Int) < (gs.length : Int) := ⟨by omega, by omega⟩
  have h3 : ({ block := g, off := 0, spot := none } : Addr).add i = ⟨g, i, none⟩ := by
    unfold Addr.add; split <;> simp_all
  go_simp
theorem ne_at {α : Type} {xs ys : List α} {k : Nat} (h1 : k < xs.length) (h2 : k < ys.length) (h : xs[k] ≠ ys[k]) : xs ≠ ys := by
  rintro rfl
  exact h rfl
theorem eqRc (d : Nat) (w : World) (x0 y0 : Int) (x1 y1 : ByteArray) (x2 y2 : ByteArray) :
    (Op.equalIn (d + 2) 50 (.agg #[.int .u8 x0, .string x1, .string x2]) (.agg #[.int .u8 y0, .string y1, .string y2])).run Try.prog w = .ok (x0 == y0 && (x1.toList == y1.toList && (x2.toList == y2.toList))) w := by
  refine eqA_of Try.underlying50 (by kernel_rfl) ?_
  refine eqf_cons (by rfl) (by go_simp; rfl) (by go_simp; rfl) (by go_simp) ?_
  refine eqf_cons (by rfl) (by go_simp; rfl) (by go_simp; rfl) (by go_simp) ?_
  exact eqf_last (by rfl) (by go_simp; rfl) (by go_simp; rfl) (by go_simp)
attribute [local go_sem high] eqRc
theorem rc_beq (x0 y0 : Int) (x1 y1 : ByteArray) (x2 y2 : ByteArray) : (x0 == y0 && (x1.toList == y1.toList && (x2.toList == y2.toList))) = decide ((⟨x0, x1, x2⟩ : Rc) = ⟨y0, y1, y2⟩) := by
  by_cases h : (⟨x0, x1, x2⟩ : Rc) = ⟨y0, y1, y2⟩
  · rw [decide_eq_true h]
    injection h with h1 h2 h3
    subst h1 h2 h3
    simp
  · rw [decide_eq_false h]
    rw [Bool.eq_false_iff]
    intro hc
    apply h
    simp only [Bool.and_eq_true, beq_iff_eq] at hc
    obtain ⟨h1, h2, h3⟩ := hc
    have e : ∀ a b : ByteArray, a.toList = b.toList → a = b := fun a b hab => by
      rw [ByteArray.toList_eq, ByteArray.toList_eq] at hab
      exact ByteArray.ext (Array.toList_inj.1 hab)
    rw [h1, e _ _ h2, e _ _ h3]
set_option maxRecDepth 100000 in
set_option maxHeartbeats 4000000 in
theorem law22_groups (v u : Value) (gs hs : List (List Rc)) (w : World) (h1 : RdG w v gs) (h2 : RdG w u hs) (hgl : gs.length ≤ 1000000) :
    Calls Try.prog 18 #[v, u] w fun e w' => e = .returned (.bool (decide (gs = hs))) ∧ Below w.heap.size w w' := by
  have H1 := Lib.hid h1
  have H2 := Lib.hid h2
  obtain ⟨A, c, rfl, -⟩ := h1
  obtain ⟨A2, c2, rfl, -⟩ := h2
  obtain ⟨r, hr⟩ : ∃ r, decide (gs = hs) = r := ⟨_, rfl⟩
  rw [hr]
  have HR := Lib.hid hr
  clear hr
  by_cases hlen : gs.length = hs.length
  · have hlen' : (gs.length : Int) = (hs.length : Int) := by omega
    have hlb : ((gs.length : Int) != (hs.length : Int)) = false := by rw [bne_eq_false_iff_eq]; exact hlen'
    go_enter Try.func18, Try.ntmps18
    go_wp2_with fail
    go_loopw [5] (fun i wr => ∃ k : Nat, k ≤ gs.length ∧ i = .int .i64 (k : Int) ∧ Below w.heap.size w wr ∧ ∀ (j : Nat) (hj : j < gs.length), j < k → gs[j] = hs[j]'(by omega)) (fun i _ => gs.length - (intOf i).toNat)
    case atStart => exact ⟨0, Nat.zero_le _, rfl, Below.refl _ _, fun j _ h => absurd h (Nat.not_lt_zero _)⟩
    case round =>
      obtain ⟨k, hk, rfl, hb, hall⟩ := hrel
      have HB := Lib.hid hb
      have HAL := Lib.hid hall
      clear hb hall
      by_cases hlt : k < gs.length
      · have hlt' : (k : Int) < (gs.length : Int) := by omega
        obtain ⟨g, c', Ag, cg, hv, hx1, hc1, hr1⟩ := (H1.out.below HB.out).at_ hlt
        injection hv with hv1 _ hv2
        subst hv1 hv2
        obtain ⟨g', c', Ah, ch, hv, hx2, hc2, hr2⟩ := (H2.out.below HB.out).at_ (i := k) (by omega)
        injection hv with hv1 _ hv2
        subst hv1 hv2
        obtain ⟨x, hxx⟩ : ∃ x, gs[k] = x := ⟨_, rfl⟩
        obtain ⟨y, hyy⟩ : ∃ y, hs[k]'(by omega) = y := ⟨_, rfl⟩
        rw [hxx] at hc1 hr1
        rw [hyy] at hc2 hr2
        have HX := Lib.hid hxx
        have HY := Lib.hid hyy
        have HR1 := Lib.hid hr1
        have HR2 := Lib.hid hr2
        have HNE : Hid (x ≠ y → r = false) := Lib.hid (fun h => by
          rw [← HR.out]
          exact decide_eq_false (ne_at hlt (by omega) (by rw [HX.out, HY.out]; exact h)))
        clear hxx hyy hr1 hr2
        by_cases hxy : x.length = y.length
        · have hxy' : (x.length : Int) = (y.length : Int) := by omega
          have hxb : ((x.length : Int) != (y.length : Int)) = false := by rw [bne_eq_false_iff_eq]; exact hxy'
          go_wp2_with fail
          go_quiet (fail)
          all_goals go_wp2_with fail
          clear hx1 hx2
          go_loopw [6] (fun i wi => ∃ m : Nat, m ≤ x.length ∧ i = .int .i64 (m : Int) ∧ Below wr.heap.size wr wi ∧ ∀ (j : Nat) (hj : j < x.length), j < m → x[j] = y[j]'(by omega)) (fun i _ => x.length - (intOf i).toNat)
          case atStart => exact ⟨0, Nat.zero_le _, rfl, pw_below_drewN (Below.refl _ _) _, fun j _ h => absurd h (Nat.not_lt_zero _)⟩
          case round =>
            obtain ⟨m, hm, rfl, hb, hall⟩ := hrel
            have HBi := Lib.hid hb
            have HALi := Lib.hid hall
            have hd1 := pw_cell_below hb hc1
            have hd2 := pw_cell_below hb hc2
            clear hb hall hc1 hc2
            obtain ⟨g', c', Ag', cg', hv, hx1, -, -⟩ := (H1.out.below HB.out).at_ hlt
            injection hv with hv1 _ hv2
            injection hv1 with hv1
            injection hv1 with hv1
            subst hv1 hv2
            obtain ⟨g', c', Ah', ch', hv, hx2, -, -⟩ := (H2.out.below HB.out).at_ (i := k) (by omega)
            injection hv with hv1 _ hv2
            injection hv1 with hv1
            injection hv1 with hv1
            subst hv1 hv2
            by_cases hlm : m < x.length
            · have hlm' : (m : Int) < (x.length : Int) := by omega
              have hlm2 : (m : Int) < (y.length : Int) := by omega
              obtain ⟨a1, c1', ad1, hv, hy1, hat1⟩ := (HR1.out.below HBi.out).at_ hlm
              injection hv with hv1 _ hv2
              subst hv1 hv2
              obtain ⟨a2, c2', ad2, hv, hy2, hat2⟩ := (HR2.out.below HBi.out).at_ (j := m) (by omega)
              injection hv with hv1 _ hv2
              subst hv1 hv2
              rw [hxy] at hy1
              obtain ⟨p, hp⟩ : ∃ p, x[m] = p := ⟨_, rfl⟩
              obtain ⟨q, hq⟩ : ∃ q, y[m]'(by omega) = q := ⟨_, rfl⟩
              rw [hp] at hat1
              rw [hq] at hat2
              have HP := Lib.hid hp
              have HQ := Lib.hid hq
              obtain ⟨k1, t1, u1⟩ := p
              obtain ⟨k2, t2, u2⟩ := q
              obtain ⟨e1, e2, e3⟩ := hat1
              obtain ⟨e4, e5, e6⟩ := hat2
              dsimp only at e1 e2 e3 e4 e5 e6
              have hbq := rc_beq k1 k2 t1 t2 u1 u2
              have hxl : x.length ≤ 9223372036854775807 := by obtain ⟨_, _, _, _, h, _⟩ := HR1.out; exact h
              clear hp hq
              by_cases hpq : (⟨k1, t1, u1⟩ : Rc) = ⟨k2, t2, u2⟩
              · rw [decide_eq_true hpq] at hbq
                have HPQ := Lib.hid hpq
                clear hpq
                go_wp2_with fail
                go_quiet (fail)
                all_goals go_wp2_with fail
                go_roundw
                case rel => exact ⟨m + 1, by omega, by go_num, pw_below_drewN HBi.out _, fun j hj hjm => by
                  rcases Nat.lt_succ_iff_lt_or_eq.1 hjm with h1 | h1
                  · exact HALi.out j (by omega) h1
                  · subst h1; rw [HP.out, HQ.out, HPQ.out]⟩
                case measure => first | (simp [intOf]; done) | (simp [intOf]; omega)
              · rw [decide_eq_false hpq] at hbq
                have HF := Lib.hid (HNE.out (ne_at hlm (by omega) (by rw [HP.out, HQ.out]; exact hpq)))
                clear hpq
                go_wp2_with fail
                go_quiet (fail)
                all_goals go_wp2_with fail
                go_ret
                rw [HF.out]
                exact ⟨rfl, HB.out.trans ((pw_below_drewN HBi.out _).mono HB.out.size)⟩
            · have hge : ¬ (m : Int) < (x.length : Int) := by omega
              have HXY : Hid (x = y) := Lib.hid (List.ext_getElem hxy (fun j hj _ => HALi.out j hj (by omega)))
              clear HALi
              go_wp2_with fail
              go_roundw
              case rel => exact ⟨k + 1, by omega, by go_num, HB.out.trans (HBi.out.mono HB.out.size), fun j hj hjk => by
                rcases Nat.lt_succ_iff_lt_or_eq.1 hjk with h1 | h1
                · exact HAL.out j (by omega) h1
                · subst h1; rw [HX.out, HY.out, HXY.out]⟩
              case measure => first | (simp [intOf]; done) | (simp [intOf]; omega)
        · have hxb : ((x.length : Int) != (y.length : Int)) = true := by rw [bne_iff_ne]; omega
          have hxi : ¬ (x.length : Int) = (y.length : Int) := by omega
          have HF := Lib.hid (HNE.out (fun h => hxy (by rw [h])))
          go_wp2_with fail
          go_quiet (fail)
          all_goals go_wp2_with fail
          go_ret
          rw [HF.out]
          exact ⟨rfl, pw_below_drewN HB.out _⟩
      · have hge : ¬ (k : Int) < (gs.length : Int) := by omega
        have HT : Hid (r = true) := Lib.hid (by
          rw [← HR.out]
          exact decide_eq_true (List.ext_getElem hlen (fun j hj _ => HAL.out j hj (by omega))))
        clear HAL
        go_wp2_with fail
        go_ret
        rw [HT.out]
        exact ⟨rfl, HB.out⟩
  · have hlb : ((gs.length : Int) != (hs.length : Int)) = true := by rw [bne_iff_ne]; omega
    have hli : ¬ (gs.length : Int) = (hs.length : Int) := by omega
    have HF : Hid (r = false) := Lib.hid (by rw [← HR.out]; exact decide_eq_false (fun h => hlen (by rw [h])))
    clear hlen
    go_enter Try.func18, Try.ntmps18
    go_wp2_with fail
    go_ret
    rw [HF.out]
    exact ⟨rfl, Below.refl _ _⟩
end Go.Proofs.Ytmdecbockpgagaa

/- A disk that holds a log and nothing else, as plain data. -/
namespace Go.Proofs.Ytmdecbockpgagaa
open Go.RowKit

/-- Such a disk: all is kept; files of old lie about, unnamed. -/
def wdisk (q : Int) (st : Nat) (old : List Fl) (b : List Int) : DS := ⟨q, [(lgN, old.length)], [(lgN, old.length)], [], (st : Int), 0, 0, old ++ [⟨b, b.length⟩]⟩
variable {q : Int} {st : Nat} {old : List Fl} {b : List Int}
theorem runL_two {f g : DS → Int × DS} {d d1 d2 : DS} (h1 : f d = (0, d1)) (h2 : g d1 = (0, d2)) : runL [f, g] d = (0, d2) := by
  simp [runL, h1, h2]
theorem lgN_name : nameB lgN = true := by decide +kernel
theorem wd_code (ss : List Nm) (hs : ss.all nameB = true) {d : DS} (ho : d.offAt = 0) (hf : d.failAt = 0) (hst : 0 < d.steps) : d.code ss = 0 := by
  unfold DS.code DS.off
  rw [ho, hf, if_neg (by simp), if_neg (by omega), if_pos hs]
theorem wd_open {d : DS} (ho : d.offAt = 0) (hf : d.failAt = 0) (hst : 0 ≤ d.steps) {i : Nat} (hm : mlk d.names lgN = some i) : d.tick.open_ lgN [] = 0 := by
  have hc : d.tick.code [lgN] = 0 := wd_code _ (by rw [List.all_cons, lgN_name]; rfl) ho hf (by show 0 < d.steps + 1; omega)
  unfold DS.open_
  rw [hc, if_neg (by simp), show mlk d.tick.names lgN = some i from hm]
  rfl
theorem mlk_lg (i : Nat) : mlk [(lgN, i)] lgN = some i := by
  unfold mlk
  simp
theorem wd_file (q : Int) (st : Nat) (old : List Fl) (b : List Int) : (wdisk q st old b).files[old.length]? = some ⟨b, b.length⟩ := by
  show (old ++ [⟨b, b.length⟩])[old.length]? = _
  rw [List.getElem?_append_right (Nat.le_refl _), Nat.sub_self]
  rfl
theorem set_last (old : List Fl) (f g : Fl) : (old ++ [f]).set old.length g = old ++ [g] := by
  rw [List.set_append_right _ _ (Nat.le_refl _), Nat.sub_self]
  rfl
theorem wd_used (q : Int) (st : Nat) (old : List Fl) (b : List Int) : (wdisk q st old b).used = b.length := by
  show (List.map (fun p => (bytesIn (wdisk q st old b) p.2).length) [(lgN, old.length)]).sum = _
  have : bytesIn (wdisk q st old b) old.length = b := by
    unfold bytesIn
    rw [wd_file]
    rfl
  simp [this]
theorem wd_sync (q : Int) (st : Nat) (old : List Fl) (b : List Int) (k : Nat) :
    (({ wdisk q st old b with files := old ++ [⟨b, k⟩] } : DS).sync lgN) = (0, wdisk q (st + 1) old b) := by
  have hf : ({ wdisk q st old b with files := old ++ [⟨b, k⟩] } : DS).files[old.length]? = some ⟨b, k⟩ := by
    show (old ++ [⟨b, k⟩])[old.length]? = _
    rw [List.getElem?_append_right (Nat.le_refl _), Nat.sub_self]
    rfl
  rw [sync_yes _ lgN old.length ⟨b, k⟩ (wd_open rfl rfl (by show (0 : Int) ≤ (st : Int); omega) (mlk_lg _)) (mlk_lg _) hf]
  unfold setFile DS.tick
  simp only
  rw [set_last]
  unfold wdisk
  simp
theorem wd_syncDir (q : Int) (st : Nat) (old : List Fl) (b : List Int) (kp : NM) (si : List Chg) : (({ wdisk q st old b with kept := kp, since := si } : DS).syncDir) = (0, wdisk q (st + 1) old b) := by
  unfold DS.syncDir
  simp only
  rw [if_neg (by rw [wd_code [] rfl rfl rfl (by show (0 : Int) < (st : Int) + 1; omega)]; simp)]
  unfold DS.tick wdisk
  simp
/-- A group goes in. -/
theorem wd_append (rs : List Rc) (hq : ((b.length + (encG rs).length : Nat) : Int) ≤ q) (hm : b.length + (encG rs).length ≤ 400000) : appW lgN rs (wdisk q st old b) = (0, wdisk q (st + 2) old (b ++ encG rs)) := by
  have h1 : (wdisk q st old b).append lgN (encG rs) = (0, ({ wdisk q (st + 1) old (b ++ encG rs) with files := old ++ [⟨b ++ encG rs, b.length⟩] } : DS)) := by
    rw [append_yes _ lgN (encG rs) old.length ⟨b, b.length⟩ (wd_open rfl rfl (by show (0 : Int) ≤ (st : Int); omega) (mlk_lg _)) (mlk_lg _) (wd_file q st old b) (by
      rw [wd_used]
      show ¬ (q < (b.length : Int) ∨ q - (b.length : Int) < ((encG rs).length : Int) ∨ 400000 - (b.length : Int) < ((encG rs).length : Int))
      omega)]
    unfold setFile DS.tick
    simp only
    show ((0 : Int), _) = _
    unfold wdisk
    simp only
    rw [set_last]
    simp
  exact runL_two h1 (wd_sync q (st + 1) old _ _)
/-- The file is kept anew. -/
theorem wd_keeps : keepsW lgN (wdisk q st old b) = (0, wdisk q (st + 2) old b) := by
  have h1 : (wdisk q st old b).sync lgN = (0, wdisk q (st + 1) old b) := wd_sync q st old b b.length
  have h2 : (wdisk q (st + 1) old b).syncDir = (0, wdisk q (st + 2) old b) := wd_syncDir q (st + 1) old b _ _
  exact runL_two h1 h2
theorem wd_made (d : DS) (hd : d = ⟨q, [], [], [], (st : Int), 0, 0, old⟩ ∨ ∃ i, d = ⟨q, [(lgN, i)], [(lgN, i)], [], (st : Int), 0, 0, old⟩) : freshW lgN d = (0, wdisk q (st + 3) old []) := by
  have h1 : d.create lgN = (0, ({ ({ wdisk q (st + 1) old [] with files := old ++ [⟨[], 0⟩] } : DS) with kept := d.kept, since := d.since ++ [⟨some old.length, [], lgN⟩] } : DS)) := by
    have hc : d.tick.code [lgN] = 0 := wd_code _ (by rw [List.all_cons, lgN_name]; rfl) (by rcases hd with rfl | ⟨i, rfl⟩ <;> rfl) (by rcases hd with rfl | ⟨i, rfl⟩ <;> rfl) (by
      rcases hd with rfl | ⟨i, rfl⟩
      · show (0 : Int) < (st : Int) + 1; omega
      · show (0 : Int) < (st : Int) + 1; omega)
    unfold DS.create
    simp only
    rw [if_neg (by rw [hc]; simp)]
    rcases hd with rfl | ⟨i, rfl⟩
    · rw [if_neg (by simp [DS.tick])]
      unfold DS.tick wdisk
      simp [mput, mdel, mins]
    · rw [if_neg (by simp [DS.tick])]
      unfold DS.tick wdisk
      simp [mput, mdel, mins]
  have h2 : keepsW lgN ({ ({ wdisk q (st + 1) old [] with files := old ++ [⟨[], 0⟩] } : DS) with kept := d.kept, since := d.since ++ [⟨some old.length, [], lgN⟩] } : DS) = (0, wdisk q (st + 3) old []) := by
    have h3 : ({ ({ wdisk q (st + 1) old [] with files := old ++ [⟨[], 0⟩] } : DS) with kept := d.kept, since := d.since ++ [⟨some old.length, [], lgN⟩] } : DS).sync lgN = (0, ({ wdisk q (st + 2) old [] with kept := d.kept, since := d.since ++ [⟨some old.length, [], lgN⟩] } : DS)) := by
      have hf : ({ ({ wdisk q (st + 1) old [] with files := old ++ [⟨[], 0⟩] } : DS) with kept := d.kept, since := d.since ++ [⟨some old.length, [], lgN⟩] } : DS).files[old.length]? = some ⟨[], 0⟩ := by
        show (old ++ [⟨[], 0⟩])[old.length]? = _
        rw [List.getElem?_append_right (Nat.le_refl _), Nat.sub_self]
        rfl
      rw [sync_yes _ lgN old.length ⟨[], 0⟩ (wd_open rfl rfl (by show (0 : Int) ≤ ((st + 1 : Nat) : Int); omega) (mlk_lg _)) (mlk_lg _) hf]
      unfold setFile DS.tick
      simp only
      rw [set_last]
      unfold wdisk
      simp
      omega
    exact runL_two h3 (wd_syncDir q (st + 2) old [] _ _)
  exact runL_two h1 h2
theorem wd_fresh : freshW lgN (wdisk q st old b) = (0, wdisk q (st + 3) (old ++ [⟨b, b.length⟩]) []) := wd_made _ (.inr ⟨old.length, rfl⟩)
theorem wd_read : (wdisk q st old b).read lgN = (0, b) := by
  unfold DS.read
  rw [show (wdisk q st old b).off = false from by unfold DS.off wdisk; simp, if_neg (by decide), show mlk (wdisk q st old b).names lgN = some old.length from mlk_lg _]
  simp only
  unfold bytesIn
  rw [wd_file]
  rfl
theorem wd_first : (newD q).read lgN = (200, []) ∧ openW lgN (newD q) = (0, wdisk q 3 [] []) := by
  have h1 : (newD q).read lgN = (200, []) := rfl
  refine ⟨h1, ?_⟩
  unfold openW
  rw [h1, if_pos rfl]
  exact wd_made (q := q) (st := 0) (old := []) (newD q) (.inl rfl)
theorem wd_again : openW lgN (wdisk q st old b) = (0, wdisk q (st + 2) old b) := by
  unfold openW
  rw [wd_read, if_neg (by show ¬ (0 : Int) = 200; decide), if_neg (by show ¬ (0 : Int) ≠ 0; decide)]
  exact wd_keeps
theorem wd_crash (cs : List Int) : (wdisk q st old b).crash cs = wdisk q st old b := by
  have hp0 : ∀ c : List Int, (pick1 c 0).1 = 0 := fun c => by have := pick1_le c 0; omega
  unfold DS.crash
  simp only
  have h1 : (wdisk q st old b).since = [] := rfl
  rw [h1]
  simp only [List.length_nil, List.take_nil]
  have h2 : replay (wdisk q st old b).kept [] = some [(lgN, old.length)] := rfl
  rw [h2, Option.getD_some]
  have h3 : ∀ c : List Int, (crashF (wdisk q st old b).files [(lgN, old.length)] c).1 = (wdisk q st old b).files := fun c => by
    rw [crashF_step _ (lgN, old.length) [] c ⟨b, b.length⟩ (wd_file q st old b)]
    show ((wdisk q st old b).files.set old.length _) = _
    simp only [Nat.sub_self, hp0]
    unfold fellB wdisk
    simp only [Nat.add_zero, List.take_length, Nat.sub_zero, Nat.zero_min, List.replicate_zero, List.append_nil]
    exact set_last _ _ _
  rw [h3]
  rfl
/-- The bytes of groups, one behind the other. -/
def catG (gs : List (List Rc)) : List Int := gs.flatMap encG
theorem catG_snoc (gs : List (List Rc)) (g : List Rc) : catG (gs ++ [g]) = catG gs ++ encG g := by simp [catG]
theorem gB_cat : ∀ (gs : List (List Rc)), (∀ g ∈ gs, groupB g = true) → gsOf (catG gs) = gs ∧ endOf (catG gs) = (catG gs).length
  | [], _ => by
    have : catG [] = [] := rfl
    rw [this]
    unfold gsOf endOf
    rw [gB_nil]
    exact ⟨rfl, rfl⟩
  | g :: gs, h => by
    obtain ⟨h1, h2⟩ := gB_cat gs (fun x hx => h x (by simp [hx]))
    have e := gB_enc (h g (by simp)) (catG gs)
    have hc : catG (g :: gs) = encG g ++ catG gs := rfl
    rw [hc]
    refine ⟨?_, ?_⟩
    · rw [gsOf_enc (h g (by simp)), h1]
    · unfold endOf at h2 ⊢
      rw [e, List.length_append]
      cases hg : gB (catG gs) with
      | nil =>
        rw [hg] at h2
        have : (catG gs).length = 0 := by simpa using h2.symm
        simp [this]
      | cons p ps =>
        rw [hg] at h2
        rw [List.getLast?_cons, ← h2]
        have : ((p :: ps).map fun p : List Rc × Nat => (p.1, (encG g).length + p.2)).getLast? = (p :: ps).getLast?.map fun p : List Rc × Nat => (p.1, (encG g).length + p.2) := by rw [List.getLast?_map]
        rw [this]
        cases hl : (p :: ps).getLast? with
        | none => simp at hl
        | some z => simp
end Go.Proofs.Ytmdecbockpgagaa
