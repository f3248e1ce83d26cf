import Derived.Test.YtbooiaaejhbbkaaDiskNamed
/- DiskNames: names there are, and none else. -/
namespace Go.Proofs.Ytbooiaaejhbbkaa
open Go.RowKit Go.Maps Go.Proofs.YtbooiaaejhbbkaaW.PrintWords Go.Proofs.YtbooiaaejhbbkaaW.PrintMore

def md (N : NM) (C : List Chg) (st : Nat) (F : List Fl) : DS := ⟨1000, N, [], C, (st : Int), 0, 0, F⟩
theorem md_code (N : NM) (C : List Chg) (st : Nat) (F : List Fl) (ss : List Nm) : (md N C st F).tick.code ss = if ss.all nameB then 0 else 200 := by
  unfold DS.code
  rw [show (md N C st F).tick.off = false from rfl, if_neg (by decide), if_neg (show ¬ (md N C st F).tick.steps = (md N C st F).tick.failAt from by show ¬ ((st : Int) + 1 = 0); omega)]
theorem md_create (a : Nm) : (md [] [] 0 []).create a = if nameB a then (0, md [(a, 0)] [⟨some 0, [], a⟩] 1 [⟨[], 0⟩]) else (200, md [] [] 1 []) := by
  by_cases h : nameB a = true
  · rw [if_pos h, create_done (d := md [] [] 0 []) (s := a) rfl (show ¬ ((0 : Nat) : Int) + 1 = 0 by omega) h (by decide)]
    rfl
  · rw [if_neg h]
    have hc : (md [] [] 0 []).tick.code [a] = 200 := by rw [md_code, List.all_cons, Bool.not_eq_true _ |>.mp h]; rfl
    unfold DS.create
    dsimp only
    rw [hc, if_pos (by decide)]
    rfl
theorem md_append (a : Nm) (C : List Chg) (st : Nat) (xs : List Int) (h : nameB a = true) (hl : xs.length ≤ 200) : (md [(a, 0)] C st [⟨[], 0⟩]).append a xs = (0, md [(a, 0)] C (st + 1) [⟨xs, 0⟩]) := by
  have hm : mlk (md [(a, 0)] C st [⟨[], 0⟩]).names a = some 0 := by
    show ((([(a, 0)] : NM).find? fun p => p.1 == a).map (·.2)) = some 0
    simp
  have ho : (md [(a, 0)] C st [⟨[], 0⟩]).tick.open_ a [] = 0 := open_ok (by rw [md_code, List.all_cons, h]; rfl) hm
  rw [append_yes _ a xs 0 ⟨[], 0⟩ ho hm rfl (by
    have hu : (md [(a, 0)] C st [⟨[], 0⟩]).used = 0 := rfl
    have hq : (md [(a, 0)] C st [⟨[], 0⟩]).quota = 1000 := rfl
    rw [hu, hq]
    dsimp only [List.length_nil]
    omega)]
  rfl
theorem md_open_no (N : NM) (C : List Chg) (st : Nat) (F : List Fl) (s : Nm) (os : List Nm) (h : (s :: os).all nameB = false ∨ mlk N s = none) : (md N C st F).tick.open_ s os = 200 := by
  unfold DS.open_
  rw [md_code]
  rcases h with h | h
  · rw [h]
    rfl
  · by_cases h2 : (s :: os).all nameB = true
    · rw [if_pos h2, if_neg (by decide), show (md N C st F).tick.names = N from rfl, h]
      rfl
    · rw [if_neg h2]
      rfl
theorem md_append_no (N : NM) (C : List Chg) (st : Nat) (F : List Fl) (s : Nm) (xs : List Int) (h : [s].all nameB = false ∨ mlk N s = none) : (md N C st F).append s xs = (200, md N C (st + 1) F) := by
  unfold DS.append
  dsimp only
  rw [md_open_no N C st F s [] h, if_pos (by decide)]
  rfl
theorem md_sync_no (N : NM) (C : List Chg) (st : Nat) (F : List Fl) (s : Nm) (h : [s].all nameB = false ∨ mlk N s = none) : (md N C st F).sync s = (200, md N C (st + 1) F) := by
  unfold DS.sync
  dsimp only
  rw [md_open_no N C st F s [] h, if_pos (by decide)]
  rfl
theorem md_remove_no (N : NM) (C : List Chg) (st : Nat) (F : List Fl) (s : Nm) (h : [s].all nameB = false ∨ mlk N s = none) : (md N C st F).remove s = (200, md N C (st + 1) F) := by
  unfold DS.remove
  dsimp only
  rw [md_open_no N C st F s [] h, if_pos (by decide)]
  rfl
theorem md_rename_no (N : NM) (C : List Chg) (st : Nat) (F : List Fl) (s t : Nm) (h : [s, t].all nameB = false ∨ mlk N s = none) : (md N C st F).rename s t = (200, md N C (st + 1) F) := by
  unfold DS.rename
  dsimp only
  rw [md_open_no N C st F s [t] h, if_pos (by decide)]
  rfl
theorem md_rename (a b : Nm) (C : List Chg) (st : Nat) (F : List Fl) (ha : nameB a = true) (hb : nameB b = true) : ∃ C', (md [(a, 0)] C st F).rename a b = (0, md [(b, 0)] C' (st + 1) F) := by
  have hm : mlk (md [(a, 0)] C st F).names a = some 0 := by
    show ((([(a, 0)] : NM).find? fun p => p.1 == a).map (·.2)) = some 0
    simp
  have ho : (md [(a, 0)] C st F).tick.open_ a [b] = 0 := open_ok (by rw [md_code, List.all_cons, List.all_cons, ha, hb]; rfl) hm
  unfold DS.rename
  dsimp only
  rw [ho, if_neg (by decide)]
  by_cases h : a = b
  · subst h
    exact ⟨C, by rw [if_pos rfl]; rfl⟩
  · refine ⟨C ++ [⟨none, a, b⟩], ?_⟩
    rw [if_neg h]
    have hm' : mlk [(a, 0)] a = some 0 := hm
    have hd : does ⟨none, a, b⟩ ([(a, 0)] : NM) = some [(b, 0)] := by
      have : mdel [(a, 0)] a = [] := by simp [mdel]
      rw [does_moved (nameB_ne ha) (nameB_ne hb) hm', this]
      rfl
    unfold DS.changes
    rw [show (md [(a, 0)] C st F).tick.names = [(a, 0)] from rfl, hd]
    rfl
theorem md_read (a : Nm) (C : List Chg) (st : Nat) (xs : List Int) : (md [(a, 0)] C st [⟨xs, 0⟩]).read a = (0, xs) := by
  have hm : mlk (md [(a, 0)] C st [⟨xs, 0⟩]).names a = some 0 := by
    show ((([(a, 0)] : NM).find? fun p => p.1 == a).map (·.2)) = some 0
    simp
  unfold DS.read
  rw [show (md [(a, 0)] C st [⟨xs, 0⟩]).off = false from rfl, if_neg (by decide), hm]
  rfl
theorem md_list (N : NM) (C : List Chg) (st : Nat) (F : List Fl) : (md N C st F).list = N.map (·.1) := rfl
def zzN : Nm := [122, 122, 46, 110, 111, 110, 101]
theorem zz_ok : nameB zzN = true := by decide +kernel
theorem zz_none (a : Nm) (h : a ≠ zzN) : mlk [(a, 0)] zzN = none := by
  show ((([(a, 0)] : NM).find? fun p => p.1 == zzN).map (·.2)) = none
  simp [h]

set_option maxRecDepth 100000 in
set_option maxHeartbeats 8000000 in
theorem diskNames_walk (sa sb : ByteArray) (v : Value) (xs : List Int) (w : World) (ha : sa.size ≤ 140737488351232) (hb : sb.size ≤ 140737488351232) (hv : RdB w v xs) (hby : By xs) (_hl : xs.length ≤ 140737488351232) :
    Calls Try.prog 8 #[.string sa, .string sb, v] w fun e w' => e = .returned (.bool true) ∧ Below w.heap.size w w' := by
  obtain ⟨a, rfl⟩ : ∃ a, sa = S a := ⟨sa.data.toList, (S_of sa).symm⟩
  obtain ⟨b, rfl⟩ : ∃ b, sb = S b := ⟨sb.data.toList, (S_of sb).symm⟩
  have hza := S_size a
  have hzb := S_size b
  rw [hza] at ha
  rw [hzb] at hb
  have K0 := Lib.hid (law20_known w)
  have HV := Lib.hid hv
  have HBY := Lib.hid hby
  obtain ⟨A, cp, rfl, -, hr⟩ := hv
  have hsz := hr.2.1
  clear hr hby
  have hra := S_eq a zzN
  have hrb := S_eq b zzN
  rw [show (S zzN).toList = [122, 122, 46, 110, 111, 110, 101] from by first | rfl | decide +kernel] at hra hrb
  by_cases g1 : 80 < a.length
  · have g1i : (80 : Int) < (a.length : Int) := by omega
    go_enter Try.func8, Try.ntmps8
    go_wp2_with fail
    refine K0.out.mono ?_
    rintro e w1 ⟨rfl, hb1⟩
    go_wp2_with fail
    go_ret
    exact ⟨rfl, hb1⟩
  have g1i : ¬ (80 : Int) < (a.length : Int) := by omega
  by_cases g2 : 80 < b.length
  · have g2i : (80 : Int) < (b.length : Int) := by omega
    go_enter Try.func8, Try.ntmps8
    go_wp2_with fail
    refine K0.out.mono ?_
    rintro e w1 ⟨rfl, hb1⟩
    go_wp2_with fail
    go_ret
    exact ⟨rfl, hb1⟩
  have g2i : ¬ (80 : Int) < (b.length : Int) := by omega
  by_cases g3 : 200 < xs.length
  · have g3i : (200 : Int) < (xs.length : Int) := by omega
    go_enter Try.func8, Try.ntmps8
    go_wp2_with fail
    refine K0.out.mono ?_
    rintro e w1 ⟨rfl, hb1⟩
    go_wp2_with fail
    go_ret
    exact ⟨rfl, hb1⟩
  have g3i : ¬ (200 : Int) < (xs.length : Int) := by omega
  by_cases g4 : a = zzN
  · rw [decide_eq_true g4] at hra
    clear g4
    go_enter Try.func8, Try.ntmps8
    go_wp2_with fail
    refine K0.out.mono ?_
    rintro e w1 ⟨rfl, hb1⟩
    go_wp2_with fail
    go_ret
    exact ⟨rfl, hb1⟩
  rw [decide_eq_false g4] at hra
  by_cases g5 : b = zzN
  · rw [decide_eq_true g5] at hrb
    clear g5
    go_enter Try.func8, Try.ntmps8
    go_wp2_with fail
    refine K0.out.mono ?_
    rintro e w1 ⟨rfl, hb1⟩
    go_wp2_with fail
    go_ret
    exact ⟨rfl, hb1⟩
  rw [decide_eq_false g5] at hrb
  have G4 := Lib.hid g4
  have G5 := Lib.hid g5
  have N1 := Lib.hid (fun W => law20_name a (by omega) W)
  have N2 := Lib.hid (fun W => law20_name b (by omega) W)
  have HXL : Hid (xs.length ≤ 200) := Lib.hid (by omega)
  have hal : a.length ≤ 1000000 := by omega
  have hbl : b.length ≤ 1000000 := by omega
  clear g4 g5
  go_enter Try.func8, Try.ntmps8
  go_wp2_with fail
  refine K0.out.mono ?_
  rintro e w1 ⟨rfl, hb1⟩
  have HB1 := Lib.hid hb1
  have K1 := Lib.hid (k_new w1 1000)
  clear hb1 K0
  go_wp2_with fail
  refine (N1.out w1).mono ?_
  rintro e w1' ⟨rfl, rfl⟩
  go_wp2_with fail
  refine (N2.out w1).mono ?_
  rintro e w1' ⟨rfl, rfl⟩
  clear g1 g1i g2 g2i g3 g3i hra hrb
  go_wp2_with fail
  refine K1.out.mono ?_
  rintro e w2 ⟨p, G0, rfl, hp, hk⟩
  have HK : Hid (Dk w1.heap.size p w1 G0 (md [] [] 0 []) w2) := Lib.hid hk
  clear hk K1 N1 N2
  have KC := k_create HK.out (by show (0 : Int) < 1000000000; omega) a hal
  rw [md_create] at KC
  generalize hok : nameB a = ok at *
  generalize his : nameB b = isn at *
  have HOK := Lib.hid hok
  have HIS := Lib.hid his
  clear hok his
  cases ok with
  | false =>
    cases isn with
    | false =>
      rw [if_neg (by decide)] at KC
      have HKC := Lib.hid KC
      clear KC
      go_wp2_with fail
      refine HKC.out.mono ?_
      rintro e w3 ⟨rfl, G1, hk, -⟩
      have KA := k_append hk (by show ((1 : Nat) : Int) < 1000000000; omega) a hal xs HBY.out _ (HV.out.below (HB1.out.trans (hk.bel.mono HB1.out.size))) (Far.old hk.at_ (HV.out.below HB1.out)) (by show -9223372036854775808 ≤ (1000 : Int) ∧ (1000 : Int) < 9223372036854775808; omega)
      rw [md_append_no _ _ _ _ _ _ (.inl (by rw [List.all_cons, HOK.out]; rfl))] at KA
      have HKA := Lib.hid KA
      clear hk KA HKC
      go_wp2_with fail
      refine HKA.out.mono ?_
      rintro e w4 ⟨rfl, G2, hk, -⟩
      have KR := k_rename hk (by show ((2 : Nat) : Int) < 1000000000; omega) a b hal hbl
      rw [md_rename_no _ _ _ _ _ _ (.inl (by rw [List.all_cons, HOK.out]; rfl))] at KR
      have HKR := Lib.hid KR
      clear hk KR HKA
      go_wp2_with fail
      refine HKR.out.mono ?_
      rintro e w5 ⟨rfl, G3, hk, -⟩
      have HK5 := Lib.hid hk
      clear hk HKR
      have KZ := k_sync HK5.out (by show ((3 : Nat) : Int) < 1000000000; omega) zzN (by decide)
      rw [md_sync_no _ _ _ _ _ (.inr rfl)] at KZ
      have HKZ := Lib.hid KZ
      clear KZ
      go_wp2_with fail
      refine HKZ.out.mono ?_
      rintro e z0 ⟨rfl, Gz0, hk, -⟩
      have HZ0 := Lib.hid hk
      clear hk HKZ
      have KZ := k_remove HZ0.out (by show ((4 : Nat) : Int) < 1000000000; omega) zzN (by decide)
      rw [md_remove_no _ _ _ _ _ (.inr rfl)] at KZ
      have HKZ := Lib.hid KZ
      clear KZ
      go_wp2_with fail
      refine HKZ.out.mono ?_
      rintro e z1 ⟨rfl, Gz1, hk, -⟩
      have HZ1 := Lib.hid hk
      clear hk HKZ
      have KZ := k_rename HZ1.out (by show ((5 : Nat) : Int) < 1000000000; omega) zzN [113] (by decide) (by decide)
      rw [md_rename_no _ _ _ _ _ _ (.inr rfl)] at KZ
      have HKZ := Lib.hid KZ
      clear KZ
      go_wp2_with fail
      refine HKZ.out.mono ?_
      rintro e z2 ⟨rfl, Gz2, hk, -⟩
      have HZ2 := Lib.hid hk
      clear hk HKZ
      have KL := k_list HZ2.out
      rw [md_list] at KL
      have HKL := Lib.hid KL
      clear KL
      go_wp2_with fail
      refine HKL.out.mono ?_
      rintro e w9 ⟨v9, rfl, ho9, hk, -⟩
      obtain ⟨A9, c9, rfl, -⟩ := own_shape ho9
      have HBE := Lib.hid (HB1.out.trans (hk.bel.mono HB1.out.size))
      clear hk ho9 HKL
      go_wp2_with fail
      go_ret
      exact ⟨rfl, HBE.out⟩
    | true =>
      rw [if_neg (by decide)] at KC
      have HKC := Lib.hid KC
      clear KC
      go_wp2_with fail
      refine HKC.out.mono ?_
      rintro e w3 ⟨rfl, G1, hk, -⟩
      have KA := k_append hk (by show ((1 : Nat) : Int) < 1000000000; omega) a hal xs HBY.out _ (HV.out.below (HB1.out.trans (hk.bel.mono HB1.out.size))) (Far.old hk.at_ (HV.out.below HB1.out)) (by show -9223372036854775808 ≤ (1000 : Int) ∧ (1000 : Int) < 9223372036854775808; omega)
      rw [md_append_no _ _ _ _ _ _ (.inl (by rw [List.all_cons, HOK.out]; rfl))] at KA
      have HKA := Lib.hid KA
      clear hk KA HKC
      go_wp2_with fail
      refine HKA.out.mono ?_
      rintro e w4 ⟨rfl, G2, hk, -⟩
      have KR := k_rename hk (by show ((2 : Nat) : Int) < 1000000000; omega) a b hal hbl
      rw [md_rename_no _ _ _ _ _ _ (.inl (by rw [List.all_cons, HOK.out]; rfl))] at KR
      have HKR := Lib.hid KR
      clear hk KR HKA
      go_wp2_with fail
      refine HKR.out.mono ?_
      rintro e w5 ⟨rfl, G3, hk, -⟩
      have HK5 := Lib.hid hk
      clear hk HKR
      have KZ := k_sync HK5.out (by show ((3 : Nat) : Int) < 1000000000; omega) zzN (by decide)
      rw [md_sync_no _ _ _ _ _ (.inr rfl)] at KZ
      have HKZ := Lib.hid KZ
      clear KZ
      go_wp2_with fail
      refine HKZ.out.mono ?_
      rintro e z0 ⟨rfl, Gz0, hk, -⟩
      have HZ0 := Lib.hid hk
      clear hk HKZ
      have KZ := k_remove HZ0.out (by show ((4 : Nat) : Int) < 1000000000; omega) zzN (by decide)
      rw [md_remove_no _ _ _ _ _ (.inr rfl)] at KZ
      have HKZ := Lib.hid KZ
      clear KZ
      go_wp2_with fail
      refine HKZ.out.mono ?_
      rintro e z1 ⟨rfl, Gz1, hk, -⟩
      have HZ1 := Lib.hid hk
      clear hk HKZ
      have KZ := k_rename HZ1.out (by show ((5 : Nat) : Int) < 1000000000; omega) zzN [113] (by decide) (by decide)
      rw [md_rename_no _ _ _ _ _ _ (.inr rfl)] at KZ
      have HKZ := Lib.hid KZ
      clear KZ
      go_wp2_with fail
      refine HKZ.out.mono ?_
      rintro e z2 ⟨rfl, Gz2, hk, -⟩
      have HZ2 := Lib.hid hk
      clear hk HKZ
      have KL := k_list HZ2.out
      rw [md_list] at KL
      have HKL := Lib.hid KL
      clear KL
      go_wp2_with fail
      refine HKL.out.mono ?_
      rintro e w9 ⟨v9, rfl, ho9, hk, -⟩
      obtain ⟨A9, c9, rfl, -⟩ := own_shape ho9
      have HBE := Lib.hid (HB1.out.trans (hk.bel.mono HB1.out.size))
      clear hk ho9 HKL
      go_wp2_with fail
      go_ret
      exact ⟨rfl, HBE.out⟩
  | true =>
    cases isn with
    | false =>
      rw [if_pos (by decide)] at KC
      have HKC := Lib.hid KC
      clear KC
      go_wp2_with fail
      refine HKC.out.mono ?_
      rintro e w3 ⟨rfl, G1, hk, -⟩
      have KA := k_append hk (by show ((1 : Nat) : Int) < 1000000000; omega) a hal xs HBY.out _ (HV.out.below (HB1.out.trans (hk.bel.mono HB1.out.size))) (Far.old hk.at_ (HV.out.below HB1.out)) (by show -9223372036854775808 ≤ (1000 : Int) ∧ (1000 : Int) < 9223372036854775808; omega)
      rw [md_append _ _ _ _ HOK.out HXL.out] at KA
      have HKA := Lib.hid KA
      clear hk KA HKC
      go_wp2_with fail
      refine HKA.out.mono ?_
      rintro e w4 ⟨rfl, G2, hk, -⟩
      have KR := k_rename hk (by show ((2 : Nat) : Int) < 1000000000; omega) a b hal hbl
      rw [md_rename_no _ _ _ _ _ _ (.inl (by rw [List.all_cons, HOK.out, List.all_cons, HIS.out]; rfl))] at KR
      have HKR := Lib.hid KR
      clear hk KR HKA
      go_wp2_with fail
      refine HKR.out.mono ?_
      rintro e w5 ⟨rfl, G3, hk, -⟩
      have HK5 := Lib.hid hk
      clear hk HKR
      have KZ := k_sync HK5.out (by show ((3 : Nat) : Int) < 1000000000; omega) zzN (by decide)
      rw [md_sync_no _ _ _ _ _ (.inr (zz_none a G4.out))] at KZ
      have HKZ := Lib.hid KZ
      clear KZ
      go_wp2_with fail
      refine HKZ.out.mono ?_
      rintro e z0 ⟨rfl, Gz0, hk, -⟩
      have HZ0 := Lib.hid hk
      clear hk HKZ
      have KZ := k_remove HZ0.out (by show ((4 : Nat) : Int) < 1000000000; omega) zzN (by decide)
      rw [md_remove_no _ _ _ _ _ (.inr (zz_none a G4.out))] at KZ
      have HKZ := Lib.hid KZ
      clear KZ
      go_wp2_with fail
      refine HKZ.out.mono ?_
      rintro e z1 ⟨rfl, Gz1, hk, -⟩
      have HZ1 := Lib.hid hk
      clear hk HKZ
      have KZ := k_rename HZ1.out (by show ((5 : Nat) : Int) < 1000000000; omega) zzN [113] (by decide) (by decide)
      rw [md_rename_no _ _ _ _ _ _ (.inr (zz_none a G4.out))] at KZ
      have HKZ := Lib.hid KZ
      clear KZ
      go_wp2_with fail
      refine HKZ.out.mono ?_
      rintro e z2 ⟨rfl, Gz2, hk, -⟩
      have HZ2 := Lib.hid hk
      clear hk HKZ
      have KR := k_read HZ2.out a hal
      rw [md_read] at KR
      have HKR := Lib.hid KR
      clear KR
      go_wp2_with fail
      refine HKR.out.mono ?_
      rintro e w9 ⟨v9, rfl, ho9, hk, hb9⟩
      have HO9 := Lib.hid ho9
      have KL := k_list hk
      rw [md_list] at KL
      have HKL := Lib.hid KL
      have HBW := Lib.hid (HB1.out.trans (hk.bel.mono HB1.out.size))
      clear KL hk ho9 HKR hb9
      obtain ⟨A9, c9, rfl, -⟩ := own_shape HO9.out
      go_wp2_with fail
      refine HKL.out.mono ?_
      rintro e w10 ⟨v10, rfl, ho10, hk, hb10⟩
      obtain ⟨g, cap, he10, -, -, -, hcell⟩ := ho10.shape (by simp)
      have hc0 := hcell 0 a rfl
      have he11 : v10 = .slice (some ⟨g, 0, none⟩) 1 cap := he10
      subst he11
      have hr9 : ReadsInt w10 .u8 A9 xs.length xs := RdB.reads (HO9.out.below hb10).rd
      have hr0 : ReadsInt w10 .u8 A xs.length xs := RdB.reads (HV.out.below (HBW.out.trans (hb10.mono HBW.out.size)))
      have hcv9 : (convert 27 9 (.slice A9 xs.length c9)).run Try.prog w10 = .ok (.string (strOfNums xs)) w10 := conv_bytes_string (P := Try.prog) 27 5 9 Try.underlying27 Try.underlying5 Try.underlying9 hr9 c9
      have hcv0 : (convert 27 9 (.slice A xs.length cp)).run Try.prog w10 = .ok (.string (strOfNums xs)) w10 := conv_bytes_string (P := Try.prog) 27 5 9 Try.underlying27 Try.underlying5 Try.underlying9 hr0 cp
      have HBE := Lib.hid (HB1.out.trans (hk.bel.mono HB1.out.size))
      clear he10 hcell ho10 hk hb10 hr9 hr0 HKL
      go_wp2_with fail
      go_ret
      exact ⟨rfl, HBE.out⟩
    | true =>
      rw [if_pos (by decide)] at KC
      have HKC := Lib.hid KC
      clear KC
      go_wp2_with fail
      refine HKC.out.mono ?_
      rintro e w3 ⟨rfl, G1, hk, -⟩
      have KA := k_append hk (by show ((1 : Nat) : Int) < 1000000000; omega) a hal xs HBY.out _ (HV.out.below (HB1.out.trans (hk.bel.mono HB1.out.size))) (Far.old hk.at_ (HV.out.below HB1.out)) (by show -9223372036854775808 ≤ (1000 : Int) ∧ (1000 : Int) < 9223372036854775808; omega)
      rw [md_append _ _ _ _ HOK.out HXL.out] at KA
      have HKA := Lib.hid KA
      clear hk KA HKC
      go_wp2_with fail
      refine HKA.out.mono ?_
      rintro e w4 ⟨rfl, G2, hk, -⟩
      have KR := k_rename hk (by show ((2 : Nat) : Int) < 1000000000; omega) a b hal hbl
      obtain ⟨C', hC'⟩ := md_rename a b [⟨some 0, [], a⟩] 2 [⟨xs, 0⟩] HOK.out HIS.out
      rw [hC'] at KR
      clear hC'
      have HKR := Lib.hid KR
      clear hk KR HKA
      go_wp2_with fail
      refine HKR.out.mono ?_
      rintro e w5 ⟨rfl, G3, hk, -⟩
      have HK5 := Lib.hid hk
      clear hk HKR
      have KZ := k_sync HK5.out (by show ((3 : Nat) : Int) < 1000000000; omega) zzN (by decide)
      rw [md_sync_no _ _ _ _ _ (.inr (zz_none b G5.out))] at KZ
      have HKZ := Lib.hid KZ
      clear KZ
      go_wp2_with fail
      refine HKZ.out.mono ?_
      rintro e z0 ⟨rfl, Gz0, hk, -⟩
      have HZ0 := Lib.hid hk
      clear hk HKZ
      have KZ := k_remove HZ0.out (by show ((4 : Nat) : Int) < 1000000000; omega) zzN (by decide)
      rw [md_remove_no _ _ _ _ _ (.inr (zz_none b G5.out))] at KZ
      have HKZ := Lib.hid KZ
      clear KZ
      go_wp2_with fail
      refine HKZ.out.mono ?_
      rintro e z1 ⟨rfl, Gz1, hk, -⟩
      have HZ1 := Lib.hid hk
      clear hk HKZ
      have KZ := k_rename HZ1.out (by show ((5 : Nat) : Int) < 1000000000; omega) zzN [113] (by decide) (by decide)
      rw [md_rename_no _ _ _ _ _ _ (.inr (zz_none b G5.out))] at KZ
      have HKZ := Lib.hid KZ
      clear KZ
      go_wp2_with fail
      refine HKZ.out.mono ?_
      rintro e z2 ⟨rfl, Gz2, hk, -⟩
      have HZ2 := Lib.hid hk
      clear hk HKZ
      have KR := k_read HZ2.out b hbl
      rw [md_read] at KR
      have HKR := Lib.hid KR
      clear KR
      go_wp2_with fail
      refine HKR.out.mono ?_
      rintro e w9 ⟨v9, rfl, ho9, hk, hb9⟩
      have HO9 := Lib.hid ho9
      have KL := k_list hk
      rw [md_list] at KL
      have HKL := Lib.hid KL
      have HBW := Lib.hid (HB1.out.trans (hk.bel.mono HB1.out.size))
      clear KL hk ho9 HKR hb9
      obtain ⟨A9, c9, rfl, -⟩ := own_shape HO9.out
      go_wp2_with fail
      refine HKL.out.mono ?_
      rintro e w10 ⟨v10, rfl, ho10, hk, hb10⟩
      obtain ⟨g, cap, he10, -, -, -, hcell⟩ := ho10.shape (by simp)
      have hc0 := hcell 0 b rfl
      have he11 : v10 = .slice (some ⟨g, 0, none⟩) 1 cap := he10
      subst he11
      have hr9 : ReadsInt w10 .u8 A9 xs.length xs := RdB.reads (HO9.out.below hb10).rd
      have hr0 : ReadsInt w10 .u8 A xs.length xs := RdB.reads (HV.out.below (HBW.out.trans (hb10.mono HBW.out.size)))
      have hcv9 : (convert 27 9 (.slice A9 xs.length c9)).run Try.prog w10 = .ok (.string (strOfNums xs)) w10 := conv_bytes_string (P := Try.prog) 27 5 9 Try.underlying27 Try.underlying5 Try.underlying9 hr9 c9
      have hcv0 : (convert 27 9 (.slice A xs.length cp)).run Try.prog w10 = .ok (.string (strOfNums xs)) w10 := conv_bytes_string (P := Try.prog) 27 5 9 Try.underlying27 Try.underlying5 Try.underlying9 hr0 cp
      have HBE := Lib.hid (HB1.out.trans (hk.bel.mono HB1.out.size))
      clear he10 hcell ho10 hk hb10 hr9 hr0 HKL
      go_wp2_with fail
      go_ret
      exact ⟨rfl, HBE.out⟩
end Go.Proofs.Ytbooiaaejhbbkaa
