import Derived.Test.YtbooiaaejhbbkaaDiskKnown
/- DiskPowers: from its step on nothing is done any more. -/
namespace Go.Proofs.Ytbooiaaejhbbkaa
open Go.RowKit Go.Maps Go.Proofs.YtbooiaaejhbbkaaW.PrintWords Go.Proofs.YtbooiaaejhbbkaaW.PrintMore

theorem does_len {c : Chg} {m m' : NM} (h : does c m = some m') : m'.length ≤ m.length + 1 := by
  unfold does at h
  split at h
  · split at h
    · cases h
      omega
    · cases hc : c.f with
      | none => rw [hc] at h; cases h
      | some i =>
        rw [hc] at h
        cases h
        exact mput_len_le _ _ _
  · cases hl : mlk m c.src with
    | none => rw [hl] at h; cases h
    | some i =>
      rw [hl] at h
      by_cases h2 : c.dst = []
      · have : mdel m c.src = m' := by simpa [h2] using h
        rw [← this]
        have := mdel_len_le m c.src
        omega
      · have : mput (mdel m c.src) c.dst i = m' := by simpa [h2] using h
        rw [← this]
        have h1 := mput_len_le (mdel m c.src) c.dst i
        have h3 := mdel_len_le m c.src
        omega
theorem replay_len : ∀ {l : List Chg} {m m' : NM}, replay m l = some m' → m'.length ≤ m.length + l.length
  | [], m, m', h => by
    cases h
    simp
  | c :: l, m, m', h => by
    have h2 : (does c m).bind (fun m1 => replay m1 l) = some m' := h
    cases hd : does c m with
    | none => rw [hd] at h2; cases h2
    | some m1 =>
      rw [hd] at h2
      have h3 := replay_len h2
      have h4 := does_len hd
      rw [List.length_cons]
      omega
theorem mput_ne (m : NM) (s : Nm) (i : Nat) : mput m s i ≠ [] := by
  intro h
  have := mins_len (s, i) (mdel m s)
  have h2 : mins (s, i) (mdel m s) = [] := h
  rw [h2] at this
  simp at this
theorem crashF_empty : ∀ (ps : NM) (fs : List Fl) (cs : List Int), (∀ f ∈ fs, f.b = []) → ∀ f ∈ (crashF fs ps cs).1, f.b = []
  | [], _, _, h => h
  | p :: ps, fs, cs, h => by
    cases hf : fs[p.2]? with
    | none =>
      have h1 : crashF fs (p :: ps) cs = crashF (fs.set p.2 _) ps _ := rfl
      rw [h1, List.set_eq_of_length_le (by have := List.getElem?_eq_none_iff.1 hf; omega)]
      exact crashF_empty ps _ _ h
    | some f =>
      rw [crashF_step fs p ps cs f hf]
      refine crashF_empty ps _ _ (fun g hg => ?_)
      rcases List.mem_or_eq_of_mem_set hg with hg | rfl
      · exact h g hg
      · have h0 := h f (List.mem_of_getElem? hf)
        show fellB f _ _ = []
        unfold fellB
        rw [h0]
        simp
theorem used_empty {d : DS} (h : ∀ f ∈ d.files, f.b = []) : d.used = 0 := by
  unfold DS.used
  have : (d.names.map fun p => (bytesIn d p.2).length) = d.names.map fun _ => 0 := by
    refine List.map_congr_left (fun p _ => ?_)
    unfold bytesIn
    cases hf : d.files[p.2]? with
    | none => rfl
    | some f =>
      have := h f (List.mem_of_getElem? hf)
      simp [this]
  rw [this]
  induction d.names with
  | nil => rfl
  | cons x r ih => rw [List.map_cons, List.sum_cons, ih]
theorem create_done {d : DS} {s : Nm} (ho : d.tick.off = false) (hf : ¬ d.steps + 1 = d.failAt) (hn : nameB s = true) (hl : d.names.length < 200) : d.create s = (0, ({ d.tick with files := d.files ++ [⟨[], 0⟩], names := mput d.names s d.files.length, since := d.since ++ [⟨some d.files.length, [], s⟩] } : DS)) := by
  have hc : d.tick.code [s] = 0 := by
    unfold DS.code
    rw [ho, if_neg (by decide), if_neg (show ¬ d.tick.steps = d.tick.failAt from hf), List.all_cons, hn]
    rfl
  unfold DS.create
  dsimp only
  rw [if_neg (by rw [hc]; decide), if_neg (show ¬ ((mlk d.tick.names s).isNone ∧ 200 ≤ d.tick.names.length) from fun h => by have : 200 ≤ d.names.length := h.2; omega)]
  rfl
theorem create_off {d : DS} {s : Nm} (ho : d.tick.off = true) : d.create s = (203, d.tick) := by
  have hc : d.tick.code [s] = 203 := by
    unfold DS.code
    rw [ho]
    rfl
  unfold DS.create
  dsimp only
  rw [hc, if_pos (by decide)]

/-- The disk behind j steps, the power off from step k on. -/
structure PD (k j : Nat) (d : DS) : Prop where
  steps : d.steps = j
  off : d.offAt = k
  fail : d.failAt = 0
  empty : ∀ f ∈ d.files, f.b = []
  kept : d.kept = []
  names : d.names.length ≤ j
  since : d.since.length ≤ j
  some : 1 ≤ j → 1 < k → d.names ≠ []
theorem PD.is_off {k j : Nat} {d : DS} (h : PD k j d) (hk : 1 ≤ k) : d.off = decide (k ≤ j) := by
  unfold DS.off
  rw [h.off, h.steps]
  have h1 : (0 : Int) < (k : Int) := by omega
  rw [decide_eq_true h1, Bool.true_and]
  exact decide_eq_decide.2 (by omega)
theorem PD.tick_off {k j : Nat} {d : DS} (h : PD k j d) (hk : 1 ≤ k) : d.tick.off = decide (k ≤ j + 1) := by
  unfold DS.off DS.tick
  simp only
  rw [h.off, h.steps]
  have h1 : (0 : Int) < (k : Int) := by omega
  rw [decide_eq_true h1, Bool.true_and]
  exact decide_eq_decide.2 (by omega)
theorem PD.create {k j : Nat} {d : DS} (h : PD k j d) (hk : 1 ≤ k) (hj : j < 100) {s : Nm} (hn : nameB s = true) :
    (d.create s).1 = (if k ≤ j + 1 then 203 else 0) ∧ PD k (j + 1) (d.create s).2 := by
  by_cases hc : k ≤ j + 1
  · have ho : d.tick.off = true := by rw [h.tick_off hk, decide_eq_true hc]
    rw [create_off ho, if_pos hc]
    refine ⟨rfl, ?_, h.off, h.fail, h.empty, h.kept, Nat.le_succ_of_le h.names, Nat.le_succ_of_le h.since, fun _ hk1 => ?_⟩
    · show d.steps + 1 = _
      rw [h.steps]
      rfl
    · rcases Nat.eq_zero_or_pos j with h0 | h0
      · omega
      · exact h.some h0 hk1
  · have ho : d.tick.off = false := by rw [h.tick_off hk, decide_eq_false hc]
    have hnl := h.names
    rw [create_done ho (by rw [h.steps, h.fail]; omega) hn (by omega), if_neg hc]
    refine ⟨rfl, ?_, h.off, h.fail, fun f hf => ?_, h.kept, ?_, ?_, fun _ _ => mput_ne _ _ _⟩
    · show d.steps + 1 = _
      rw [h.steps]
      rfl
    · rcases List.mem_append.1 hf with hf | hf
      · exact h.empty f hf
      · rw [List.mem_singleton.1 hf]
    · have := mput_len_le d.names s d.files.length
      show (mput d.names s d.files.length).length ≤ _
      omega
    · show (d.since ++ [_]).length ≤ _
      rw [List.length_append, List.length_singleton]
      have := h.since
      omega
theorem PD.read {k j : Nat} {d : DS} (h : PD k j d) (hk : 1 ≤ k) (s : Nm) : (decide ((d.read s).1 = 203)) = decide (k ≤ j) := by
  unfold DS.read
  rw [h.is_off hk]
  by_cases hc : k ≤ j
  · rw [decide_eq_true hc]
    rfl
  · rw [decide_eq_false hc]
    cases mlk d.names s <;> rfl
theorem PD.list {k j : Nat} {d : DS} (h : PD k j d) (hk : 1 ≤ k) (hj : 1 ≤ j) : (decide (d.list.length = 0)) = decide (k ≤ j) := by
  unfold DS.list
  rw [h.is_off hk]
  by_cases hc : k ≤ j
  · rw [decide_eq_true hc]
    rfl
  · rw [decide_eq_false hc]
    have := h.some hj (by omega)
    have h2 : ¬ d.names.length = 0 := fun e => this (List.eq_nil_of_length_eq_zero e)
    simpa using h2
/-- Behind the crash. -/
theorem PD.crash {k j : Nat} {d : DS} (h : PD k j d) (hj : j < 100) (hok : d.Ok) (cs : List Int) :
    (d.crash cs).steps = j ∧ ((d.crash cs).create [122]).1 = 0 ∧ ((d.crash cs).create [122]).2.usedOut = 0 ∧ 1 ≤ ((d.crash cs).create [122]).2.list.length := by
  obtain ⟨mk, hmk⟩ := replay_take hok.back (pick1 cs d.since.length).1
  have he : d.crash cs = { d with failAt := 0, offAt := 0, names := mk, kept := mk, since := [], files := (crashF d.files mk (pick1 cs d.since.length).2).1 } := by
    unfold DS.crash
    simp only
    rw [hmk]
    rfl
  have hl := replay_len hmk
  have hsl := h.since
  rw [h.kept, List.length_nil, List.length_take] at hl
  have hst := h.steps
  have hoff : ∀ d' : DS, d'.offAt = 0 → d'.off = false := fun d' h0 => by
    unfold DS.off
    rw [h0]
    rfl
  rw [he]
  have hc := create_done (d := { d with failAt := 0, offAt := 0, names := mk, kept := mk, since := [], files := (crashF d.files mk (pick1 cs d.since.length).2).1 }) (s := [122]) (hoff _ rfl) (show ¬ d.steps + 1 = (0 : Int) by omega) (by decide +kernel) (show mk.length < 200 by omega)
  rw [hc]
  refine ⟨hst, rfl, ?_, ?_⟩
  · unfold DS.usedOut
    rw [hoff _ rfl, if_neg (by simp)]
    refine used_empty (fun f hf => ?_)
    rcases List.mem_append.1 hf with hf | hf
    · exact crashF_empty mk d.files _ h.empty f hf
    · rw [List.mem_singleton.1 hf]
  · unfold DS.list
    rw [hoff _ rfl, if_neg (by simp), List.length_map]
    have := mput_ne mk [122] (crashF d.files mk (pick1 cs d.since.length).2).1.length
    exact Nat.pos_of_ne_zero (fun e => this (List.eq_nil_of_length_eq_zero e))
theorem PD.new (k : Nat) (hk : 1 ≤ k ∧ k ≤ 12) : PD k 0 ((newD 1000).power (k : Int)) := by
  have h : (newD 1000).power (k : Int) = { newD 1000 with offAt := (k : Int) } := by
    unfold DS.power
    rw [if_neg (by decide)]
    congr 1
    unfold DS.from_
    rw [if_neg (by omega)]
    show (0 : Int) + min (k : Int) 1099511627776 = k
    omega
  rw [h]
  exact ⟨rfl, rfl, rfl, fun _ hf => (by cases hf), rfl, Nat.le_refl _, Nat.le_refl _, fun h0 => absurd h0 (by omega)⟩
/-- One byte behind a letter. -/
theorem conv_one (W : World) (b : UInt8) : (convert 27 9 (.slice (some ⟨W.heap.size, 0, none⟩) 1 1)).run Try.prog (W.alloc (.cells #[.int .u8 (b.toNat : Int)] 5)) = .ok (.string (S [b])) (W.alloc (.cells #[.int .u8 (b.toNat : Int)] 5)) := by
  have hr : ReadsInt (W.alloc (.cells #[.int .u8 (b.toNat : Int)] 5)) .u8 (some ⟨W.heap.size, 0, none⟩) 1 [(b.toNat : Int)] := by
    refine ⟨rfl, by decide, fun _ => ⟨_, rfl, fun j hj => ?_⟩⟩
    obtain rfl : j = 0 := by simpa using hj
    exact cell_one_new W (.int .u8 (b.toNat : Int)) 5 0 _ rfl
  have := conv_bytes_string (P := Try.prog) 27 5 9 Try.underlying27 Try.underlying5 Try.underlying9 hr 1
  rw [show strOfNums [(b.toNat : Int)] = S [b] by simp [strOfNums, S]] at this
  exact this
theorem nameB_two (a b : UInt8) (ha : nameC a = true) (hb : nameC b = true) : nameB [a, b] = true := by
  unfold nameB
  simp [ha, hb]

set_option maxRecDepth 100000 in
set_option maxHeartbeats 4000000 in
theorem diskPowers_walk (a b : Int) (w : World) (ha : 0 ≤ a ∧ a < 256) (hb : 0 ≤ b ∧ b < 256) :
    Calls Try.prog 6 #[.int .u8 a, .int .u8 b] w fun e w' => e = .returned (.bool true) ∧ Below w.heap.size w w' := by
  obtain ⟨k, hk⟩ : ∃ k : Nat, a % 12 + 1 = (k : Int) := ⟨(a % 12 + 1).toNat, by omega⟩
  obtain ⟨m, hm⟩ : ∃ m : Nat, b % 20 = (m : Int) := ⟨(b % 20).toNat, by omega⟩
  have hk0 : 1 ≤ k ∧ k ≤ 12 := by omega
  have hm0 : m < 20 := by omega
  have K0 := Lib.hid (law20_known w)
  go_enter Try.func6, Try.ntmps6
  go_wp2_with fail
  refine K0.out.mono ?_
  rintro e w1 ⟨rfl, hb1⟩
  have HB1 := Lib.hid hb1
  have K1 := Lib.hid (k_new w1 1000)
  clear hb1 K0
  go_wp2_with fail
  refine K1.out.mono ?_
  rintro e w2 ⟨p, G0, rfl, hp, hk⟩
  have HK := Lib.hid hk
  clear hk K1
  have KF := Lib.hid (k_power HK.out (k : Int) (by omega))
  have HP := Lib.hid (PD.new k hk0)
  go_wp2_with fail
  refine KF.out.mono ?_
  rintro e w4 ⟨⟨u, rfl⟩, hk, -⟩
  have HK2 := Lib.hid hk
  clear hk KF HK
  go_wp2_with fail
  go_loopw [7] (fun i wr => ∃ (j : Nat) (d : DS) (G : DG), i = .int .i64 ((j + 1 : Nat) : Int) ∧ j ≤ m ∧ Hid (PD k j d ∧ Dk w1.heap.size p w1 G d wr)) (fun i _ => m + 1 - (intOf i).toNat)
  case atStart => exact ⟨0, _, G0, rfl, Nat.zero_le _, Lib.hid ⟨HP.out, HK2.out⟩⟩
  case round =>
    obtain ⟨j, d, G, rfl, hj2, HR⟩ := hrel
    obtain ⟨i, hi⟩ : ∃ i : Nat, j + 1 = i := ⟨_, rfl⟩
    rw [hi]
    have hi1 : 1 ≤ i := by omega
    obtain rfl : j = i - 1 := by omega
    by_cases hlt : i ≤ m
    · obtain ⟨bt, hbt⟩ : ∃ bt : UInt8, UInt8.ofNat (97 + i) = bt := ⟨_, rfl⟩
      have hbn : (bt.toNat : Int) = 97 + (i : Int) := by
        rw [← hbt, UInt8.toNat_ofNat']
        omega
      have hcb : nameC bt = true := by
        unfold nameC
        have h1 : 97 ≤ bt.toNat := by omega
        have h2 : bt.toNat ≤ 122 := by omega
        simp [h1, h2]
      have hcv := conv_one wr bt
      rw [hbn] at hcv
      obtain ⟨t1, ht1⟩ : ∃ t1, S [bt] = t1 := ⟨_, rfl⟩
      have hcat : (⟨#[97]⟩ : ByteArray) ++ t1 = S [97, bt] := by rw [← ht1]; rfl
      have hno : ¬ 9223372036854775807 < (⟨#[97]⟩ : ByteArray).size + t1.size := by rw [← ht1, S_size]; show ¬ 9223372036854775807 < 1 + 1; omega
      rw [ht1] at hcv
      have hPC := HR.out.1.create hk0.1 (by omega) (nameB_two 97 bt (by decide) hcb)
      rw [show i - 1 + 1 = i by omega] at hPC
      obtain ⟨hpc, hpd⟩ := hPC
      have hB := (Below.refl wr.heap.size wr).alloc (Nat.le_refl _) (.cells #[.int .u8 (97 + (i : Int))] 5)
      have KC := k_create (HR.out.2.below hB) (by rw [HR.out.1.steps]; omega) [97, bt] (by simp)
      rw [hpc] at KC
      have HKC := Lib.hid KC
      have HPD := Lib.hid hpd
      clear hpc hpd KC hB HR hbt hbn hcb ht1
      generalize d.create [97, bt] = d2 at HKC HPD
      go_wp2_with fail
      refine HKC.out.mono ?_
      rintro e w5 ⟨rfl, G', hk, -⟩
      have HK5 := Lib.hid hk
      clear hk HKC hcv hcat hno
      have HL5 := Lib.hid (k_list HK5.out)
      have HR5 := Lib.hid (k_read HK5.out [97, 97] (by decide))
      have hr1 := HPD.out.read hk0.1 [97, 97]
      have hl1 := HPD.out.list hk0.1 hi1
      by_cases hki : k ≤ i
      · rw [if_pos hki]
        rw [decide_eq_true hki] at hr1 hl1
        have hr2 := of_decide_eq_true hr1
        rw [hr2] at HR5
        have hl2 := of_decide_eq_true hl1
        clear hr1 hl1 hr2
        have hki2 : ¬ (i : Int) < (k : Int) := by omega
        have hki3 : (k : Int) ≤ (i : Int) := by omega
        go_wp2_with fail
        refine HR5.out.mono ?_
        rintro e w6 ⟨v6, rfl, -, hk, hb6⟩
        have HK6 := Lib.hid hk
        have HL6 := Lib.hid (k_list hk)
        clear hk hb6 HR5 HL5
        go_wp2_with fail
        refine HL6.out.mono ?_
        rintro e w7 ⟨v7, rfl, ho7, hk, -⟩
        obtain ⟨A7, c7, rfl, -⟩ := own_shape ho7
        have HK7 := Lib.hid hk
        clear hk ho7 HL6 HK6
        go_wp2_with fail
        go_roundw
        case rel => exact ⟨i, d2.2, G', by go_num, by omega, Lib.hid ⟨HPD.out, HK7.out⟩⟩
        case measure => simp [intOf]; omega
      · rw [if_neg hki]
        rw [decide_eq_false hki] at hr1 hl1
        have hr2 := of_decide_eq_false hr1
        have hl2 := of_decide_eq_false hl1
        generalize (d2.2.read [97, 97]).1 = rc at *
        have hr3 : (rc == 203) = false := beq_eq_false_iff_ne.2 hr2
        clear hr1 hl1
        have hki2 : (i : Int) < (k : Int) := by omega
        go_wp2_with fail
        refine HR5.out.mono ?_
        rintro e w6 ⟨v6, rfl, -, hk, hb6⟩
        have HK6 := Lib.hid hk
        have HL6 := Lib.hid (k_list hk)
        clear hk hb6 HR5 HL5
        go_wp2_with fail
        refine HL6.out.mono ?_
        rintro e w7 ⟨v7, rfl, ho7, hk, -⟩
        obtain ⟨A7, c7, rfl, -⟩ := own_shape ho7
        have HK7 := Lib.hid hk
        have hl3 : (((d2.2.list.length : Nat) : Int) == 0) = false := beq_eq_false_iff_ne.2 (by omega)
        clear hk ho7 HL6 HK6
        go_wp2_with fail
        go_roundw
        case rel => exact ⟨i, d2.2, G', by go_num, by omega, Lib.hid ⟨HPD.out, HK7.out⟩⟩
        case measure => simp [intOf]; omega
    · obtain rfl : i = m + 1 := by omega
      rw [show m + 1 - 1 = m by omega] at *
      obtain ⟨c1, c2, c3, c4⟩ := HR.out.1.crash (by omega) HR.out.2.ok [255]
      have KS := Lib.hid (k_steps HR.out.2)
      have hst := HR.out.1.steps
      rw [hst] at KS
      have HK := Lib.hid HR.out.2
      have hB := (Below.refl wr.heap.size wr).alloc (Nat.le_refl _) (.cells (nums .u8 [255]).toArray 5)
      have KCR := Lib.hid (k_crash (HK.out.below hB) (.slice (some ⟨wr.heap.size, 0, none⟩) 1 1) [255] (own_litB wr wr.heap.size [255] (Nat.le_refl _) (by decide)).rd (by decide) (Far.new HK.out.at_))
      clear HR hst hB
      go_wp2_with fail
      refine KS.out.mono ?_
      rintro e w5 ⟨rfl, rfl⟩
      go_wp2_with fail
      refine KCR.out.mono ?_
      rintro e w6 ⟨⟨u6, rfl⟩, G6, hk, -⟩
      have KZ := Lib.hid (k_create hk (by rw [c1]; omega) [122] (by decide))
      rw [c2] at KZ
      clear hk KCR KS
      generalize (d.crash [255]).create [122] = d7 at *
      go_wp2_with fail
      refine KZ.out.mono ?_
      rintro e w7 ⟨rfl, G7, hk, -⟩
      have HK7 := Lib.hid hk
      have KU := Lib.hid (k_used hk)
      rw [c3] at KU
      clear hk KZ
      go_wp2_with fail
      refine KU.out.mono ?_
      rintro e w8 ⟨rfl, hk, -⟩
      have KL := Lib.hid (k_list hk)
      clear hk KU
      go_wp2_with fail
      refine KL.out.mono ?_
      rintro e w9 ⟨v9, rfl, ho9, hk, -⟩
      obtain ⟨A9, c9, rfl, -⟩ := own_shape ho9
      have HBE := Lib.hid (HB1.out.trans (hk.bel.mono HB1.out.size))
      have hl9 : (1 : Int) ≤ ((d7.2.list.length : Nat) : Int) := by omega
      clear hk KL ho9
      go_wp2_with fail
      go_ret
      exact ⟨rfl, HBE.out⟩
end Go.Proofs.Ytbooiaaejhbbkaa
