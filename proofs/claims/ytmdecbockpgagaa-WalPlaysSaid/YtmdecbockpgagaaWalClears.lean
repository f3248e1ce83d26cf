import Derived.Test.YtmdecbockpgagaaWalGate
import Derived.Maps.AppendAt
/- hornbooklaw22.WalClears. -/
namespace Go.Proofs.Ytmdecbockpgagaa
open Go.RowKit Go.Maps Go.Proofs.YtmdecbockpgagaaW.PrintWords Go.Proofs.YtmdecbockpgagaaW.PrintMore
variable {B p lb : Nat} {w0 : World} {G : DG} {d : DS} {w w' : World} {nm : Nm} {ng : Int} {br : Bool}

theorem Ls.grown {base : Nat} {e : TypeId} {size n : Nat} {v : Value} {xs : List Value} (h : Ls B p lb w0 G d nm ng br w) (ho : w.ownsRow base e size v n xs) (hb : B ≤ base) (hg : w.grownBy w' v.ownBlock) (ha : Apart G v) (he : e ≠ 64) : Ls B p lb w0 G d nm ng br w' := by
  refine ⟨h.dk.grown ho hb hg ha, ?_, h.far, h.lo⟩
  refine (hg.block lb (Array.getElem?_eq_some_iff.1 h.lg).1 (fun e1 => ?_)).trans h.lg
  rcases ho.2 with ⟨rfl, _⟩ | ⟨g', cap, cur, rfl, _, hg', _⟩
  · cases e1
  · injection e1 with e1
    have e2 : lb = g' := e1
    rw [← e2, show w.heap[lb]? = _ from h.lg] at hg'
    injection hg' with hg'
    injection hg' with _ h2
    exact he h2.symm
theorem conv_oneB (W : World) (b : UInt8) : (convert 22 9 (.slice (some ⟨W.heap.size, 0, none⟩) 1 1)).run Try.prog (W.alloc (.cells #[.int .u8 (b.toNat : Int)] 5)) = .ok (.string (S [b])) (W.alloc (.cells #[.int .u8 (b.toNat : Int)] 5)) := by
  have hr : ReadsInt (W.alloc (.cells #[.int .u8 (b.toNat : Int)] 5)) .u8 (some ⟨W.heap.size, 0, none⟩) 1 [(b.toNat : Int)] := by
    refine ⟨rfl, by decide, fun _ => ⟨_, rfl, fun j hj => ?_⟩⟩
    obtain rfl : j = 0 := by simpa using hj
    exact cell_one_new W (.int .u8 (b.toNat : Int)) 5 0 _ rfl
  have := conv_bytes_string (P := Try.prog) 22 5 9 Try.underlying22 Try.underlying5 Try.underlying9 hr 1
  rw [show strOfNums [(b.toNat : Int)] = S [b] by simp [strOfNums, S]] at this
  exact this
def rcD (i : Nat) : Rc := ⟨1, S [100, 101], S [UInt8.ofNat (97 + i)]⟩
def gsD (j : Nat) : List (List Rc) := (List.range j).map fun i => [rcD i]
theorem gsD_succ (j : Nat) : gsD (j + 1) = gsD j ++ [[rcD j]] := by unfold gsD; rw [List.range_succ, List.map_append]; rfl
theorem rcD_group1 (b : UInt8) : groupB [⟨1, S [100, 101], S [b]⟩] = true := by
  have h1 : (S [100, 101]).size = 2 := S_size _
  have h2 : (S [b]).size = 1 := S_size _
  simp [groupB, rightB, h1, h2]
theorem rcD_group (j : Nat) : groupB [rcD j] = true := rcD_group1 _
theorem enc_one (r : Rc) (h : groupB [r] = true) : (encG [r]).length = r.tag.size + r.text.size + 23 := by
  rw [encG_len h]
  show (rcB r).length + 8 + 0 + 10 = _
  rw [rcB_len]
theorem gsD_group (j : Nat) : ∀ g ∈ gsD j, groupB g = true := fun g hg => by
  obtain ⟨i, _, rfl⟩ := List.mem_map.1 hg
  exact rcD_group i
theorem gsD_len (j : Nat) : (gsD j).length = j := by simp [gsD]
theorem gsD_one (j : Nat) : ∀ g ∈ gsD j, g.length ≤ 9223372036854775807 := fun g hg => by
  obtain ⟨i, _, rfl⟩ := List.mem_map.1 hg
  simp
theorem encD_len (j : Nat) : (encG [rcD j]).length = 26 := by
  rw [enc_one _ (rcD_group j)]
  show (S [100, 101]).size + (S [UInt8.ofNat (97 + j)]).size + 23 = _
  rw [S_size, S_size]
  rfl
theorem catD_len : ∀ j, (catG (gsD j)).length = 26 * j
  | 0 => rfl
  | j + 1 => by
    rw [gsD_succ, catG_snoc, List.length_append, catD_len j, encD_len]
    omega
def gsK (k : Nat) : List (List Rc) := List.replicate k [rcK]
theorem catK_len : ∀ k, (catG (gsK k)).length = 26 * k
  | 0 => rfl
  | k + 1 => by
    have h1 : (S [101, 110]).size = 2 := S_size _
    have h2 : (S [120]).size = 1 := S_size _
    show (encG [rcK] ++ catG (gsK k)).length = _
    rw [List.length_append, catK_len k, enc_one _ rcK_group]
    show (S [101, 110]).size + (S [120]).size + 23 + 26 * k = _
    omega
theorem catK_snoc (k : Nat) : catG (gsK (k + 1)) = catG (gsK k) ++ encG [rcK] := by
  unfold gsK
  rw [List.replicate_succ', catG_snoc]
theorem law_rec_own (s t : ByteArray) (w W : World) (hb : Below w.heap.size w W) : Calls Try.prog 14 #[.string s, .string t] W fun e w' => ∃ b, e = .returned (.slice (some ⟨b, 0, none⟩) 1 1) ∧ OwnR w' w.heap.size (.slice (some ⟨b, 0, none⟩) 1 1) [⟨1, s, t⟩] ∧ Below w.heap.size w w' := by
  refine (law_rec s t W).mono ?_
  rintro e w' ⟨rfl, rfl⟩
  exact ⟨_, rfl, OwnR.one W _ hb.size _ _ _, hb.alloc hb.size _⟩
theorem OwnA.push {base : Nat} {u y : Value} {gs : List (List Rc)} {g : List Rc} (h : OwnA G w base u gs) (hy : OwnR w base y g) (hya : Apart G y) (hA : At B G d w) :
    ∃ us : List Value, us.length = gs.length ∧ w.ownsRow base 32 1 u us.length us ∧ Apart G u ∧ ∀ (o : Obj) (z1 : World) (v' : Value), z1.ownsRow base 32 1 v' (us.length + 1) (us ++ [y]) → (w.alloc o).grownBy z1 u.ownBlock → (v'.ownBlock = u.ownBlock ∨ v'.ownBlock = some (w.alloc o).heap.size) → OwnA G z1 base v' (gs ++ [g]) := by
  obtain ⟨us, h1, h2, h3, h4⟩ := h
  refine ⟨us, h1, h2, h3, fun o z1 v' ho hg hat => ⟨us ++ [y], by simp [h1], by simpa using ho, ?_, ?_⟩⟩
  · exact Apart.grown hA h3 (hat.imp id fun e => ⟨_, e, by simp⟩)
  · intro i x g' hx hg'
    rcases Nat.lt_or_ge i us.length with hi | hi
    · rw [List.getElem?_append_left hi] at hx
      rw [List.getElem?_append_left (h1 ▸ hi)] at hg'
      obtain ⟨a, b⟩ := h4 i x g' hx hg'
      exact ⟨own_apart (World.ownsRow.alloc a _) (World.ownsRow.alloc h2 _) (by decide) hg, b⟩
    · rw [List.getElem?_append_right hi] at hx
      rw [List.getElem?_append_right (by omega)] at hg'
      have hi0 : i - us.length = 0 := by
        rcases Nat.lt_or_ge (i - us.length) 1 with h' | h'
        · omega
        · rw [List.getElem?_eq_none (by simpa using h')] at hx; cases hx
      rw [hi0] at hx
      rw [show i - gs.length = 0 by omega] at hg'
      simp only [List.getElem?_cons_zero, Option.some.injEq] at hx hg'
      subst hx hg'
      exact ⟨own_apart (World.ownsRow.alloc hy _) (World.ownsRow.alloc h2 _) (by decide) hg, hya⟩
set_option maxRecDepth 100000 in
set_option maxHeartbeats 4000000 in
theorem walClears_walk (a b : Int) (v : Value) (cs : List Int) (w : World) (ha : 0 ≤ a ∧ a < 256) (hb : 0 ≤ b ∧ b < 256) (hv : RdB w v cs) (hcs : By cs) (_hz : cs.length ≤ 140737488351232) :
    Calls Try.prog 3 #[.int .u8 a, .int .u8 b, v] w fun e w' => e = .returned (.bool true) ∧ Below w.heap.size w w' := by
  obtain ⟨i0, hi, hz0, hz1, hz2⟩ := info_parts infoRs
  have K0 := Lib.hid (law22_known w)
  have HV := Lib.hid hv
  have HCS := Lib.hid hcs
  obtain ⟨A, c, rfl, -, -⟩ := hv
  clear hcs
  by_cases h10 : 10 < cs.length
  · have h10' : (10 : Int) < (cs.length : Int) := by omega
    go_enter Try.func3, Try.ntmps3
    go_wp2_with fail
    refine K0.out.mono ?_
    rintro e w1 ⟨rfl, hb1⟩
    have HB1 := Lib.hid hb1
    clear hb1 K0
    go_wp2_with fail
    go_ret
    exact ⟨rfl, HB1.out⟩
  have h10' : ¬ (10 : Int) < (cs.length : Int) := by omega
  obtain ⟨n, hn⟩ : ∃ n : Nat, a % 10 = (n : Int) := ⟨(a % 10).toNat, by omega⟩
  obtain ⟨m, hm⟩ : ∃ m : Nat, b % 6 = (m : Int) := ⟨(b % 6).toNat, by omega⟩
  have hn9 : n ≤ 9 := by omega
  have hm5 : m ≤ 5 := by omega
  go_enter Try.func3, Try.ntmps3
  go_wp2_with fail
  refine K0.out.mono ?_
  rintro e w1 ⟨rfl, hb1⟩
  have HB1 := Lib.hid hb1
  have HV1 := Lib.hid (HV.out.below hb1)
  have K1 := Lib.hid (k_new w1 100000)
  clear hb1 K0 HV
  go_wp2_with fail
  refine K1.out.mono ?_
  rintro e w2 ⟨p, G0, rfl, hp, hk⟩
  obtain ⟨f1, f2⟩ := wd_first (q := 100000)
  have KO := Lib.hid (wal_open hk (by show (0 : Int) + 30 < 1000000000; omega) (nm := lgN) (by decide) (fun h => by rw [f1] at h; exact absurd h (by decide)))
  rw [f2, f1] at KO
  clear hk K1 hp f1 f2
  go_wp2_with fail
  refine KO.out.mono ?_
  rintro e w3 (⟨-, v2, lb, G2, rfl, hlb, hls, hag, ht⟩ | ⟨hno, -⟩)
  case inr => exact absurd rfl hno
  rw [show gsOf ([] : List Int) = [] from congrArg (List.map _) gB_nil] at hag hls
  obtain ⟨A2, c2, rfl⟩ := hag.sl
  have HL3 : Hid (Ls w1.heap.size p lb w1 G2 (wdisk 100000 3 [] []) lgN 0 false w3) := Lib.hid hls
  clear hls hag ht KO hlb
  have HNN := Lib.hid hn
  have HMM := Lib.hid hm
  clear hm
  go_wp2_with fail
  go_loopw [12] (fun i wr => ∃ (k : Nat) (G : DG), i = .int .i64 (k : Int) ∧ k ≤ n ∧ Ls w1.heap.size p lb w1 G (wdisk 100000 (3 + 2 * k) [] (catG (gsK k))) lgN (k : Int) false wr) (fun i _ => n - (intOf i).toNat)
  case atStart => exact ⟨0, G2, rfl, Nat.zero_le _, HL3.out⟩
  case round =>
    obtain ⟨k, G3, rfl, hk, hl⟩ := hrel
    have HL := Lib.hid hl
    clear hl
    by_cases hlt : k < n
    · have hlt' : (k : Int) < (n : Int) := by omega
      have KR := Lib.hid (law_rec (S [101, 110]) (S [120]) wr)
      have hbn := (Below.refl wr.heap.size wr).alloc (Nat.le_refl _) (.cells #[.int .u8 1, .string (S [101, 110]), .string (S [120])] 50)
      have hap := wd_append (q := 100000) (st := 3 + 2 * k) (old := []) (b := catG (gsK k)) [rcK] (by rw [catK_len, enc_one _ rcK_group]; show ((26 * k + ((S [101, 110]).size + (S [120]).size + 23) : Nat) : Int) ≤ 100000; rw [S_size, S_size]; simp; omega) (by rw [catK_len, enc_one _ rcK_group]; show 26 * k + ((S [101, 110]).size + (S [120]).size + 23) ≤ 400000; rw [S_size, S_size]; simp; omega)
      rw [← catK_snoc] at hap
      have KA := Lib.hid (wal_append (HL.out.below hbn) (by show ((3 + 2 * k : Nat) : Int) + 15 < 1000000000; omega) (by decide) (OwnR.one wr wr.heap.size (Nat.le_refl _) 1 (S [101, 110]) (S [120])).rd' (Far.new HL.out.dk.at_) rcK_group (by show -9223372036854775808 ≤ (100000 : Int) ∧ (100000 : Int) < 9223372036854775808; omega) (by omega))
      rw [show appW lgN [⟨1, S [101, 110], S [120]⟩] (wdisk 100000 (3 + 2 * k) [] (catG (gsK k))) = _ from hap] at KA
      clear hbn hap
      go_wp2_with fail
      refine KR.out.mono ?_
      rintro e w4 ⟨rfl, rfl⟩
      clear KR
      go_wp2_with fail
      refine KA.out.mono ?_
      rintro e w5 ⟨rfl, G5, hls, -⟩
      have HL5 : Hid (Ls w1.heap.size p lb w1 G5 (wdisk 100000 (3 + 2 * k + 2) [] (catG (gsK (k + 1)))) lgN ((k : Int) + 1) false w5) := Lib.hid hls
      clear hls KA
      go_wp2_with fail
      go_roundw
      case rel => exact ⟨k + 1, G5, by go_num, by omega, by rw [show 3 + 2 * (k + 1) = 3 + 2 * k + 2 by omega]; exact HL5.out⟩
      case measure => simp [intOf]; omega
    · have hge : ¬ (k : Int) < (n : Int) := by omega
      obtain rfl : k = n := by omega
      have KL := Lib.hid (wal_len lb lgN (k : Int) false wr HL.out.lg)
      have KC := Lib.hid (wal_clear HL.out (by show ((3 + 2 * k : Nat) : Int) + 30 < 1000000000; omega) (by decide))
      rw [wd_fresh] at KC
      have hn2 := HNN.out
      go_wp2_with fail
      refine KL.out.mono ?_
      rintro e w4 ⟨rfl, rfl⟩
      clear KL
      go_wp2_with fail
      refine KC.out.mono ?_
      rintro e w5 ⟨rfl, G5, hls, -⟩
      obtain ⟨st, hst⟩ : ∃ st, 3 + 2 * k + 3 = st := ⟨_, rfl⟩
      obtain ⟨old, hold⟩ : ∃ old, ([] : List Fl) ++ [⟨catG (gsK k), (catG (gsK k)).length⟩] = old := ⟨_, rfl⟩
      rw [hst, hold] at hls
      have HST : Hid (st ≤ 30) := Lib.hid (by omega)
      have HL5 : Hid (Ls w1.heap.size p lb w1 G5 (wdisk 100000 st old []) lgN 0 false w5) := Lib.hid hls
      have KL := Lib.hid (wal_len lb lgN 0 false w5 HL5.out.lg)
      clear hls KC HL hst hold
      go_wp2_with fail
      refine KL.out.mono ?_
      rintro e w6 ⟨rfl, rfl⟩
      have hm := HMM.out
      obtain ⟨bw, hbw⟩ : ∃ bw, w6.heap.size = bw := ⟨_, rfl⟩
      have HBW : Hid (w1.heap.size ≤ bw) := Lib.hid (by rw [← hbw]; exact HL5.out.dk.bel.size)
      have HA0 : Hid (OwnA G5 w6 bw (.slice none 0 0) (gsD 0)) := Lib.hid ⟨[], rfl, World.ownsRow_nil _ _ _ _, Apart.nil _, fun i y g hy => by simp at hy⟩
      clear KL hn2 hn
      go_wp2_with fail
      go_loopw [11, 13] (fun u i wr => ∃ (j : Nat) (G : DG), i = .int .i64 (j : Int) ∧ j ≤ m ∧ Ls w1.heap.size p lb w1 G (wdisk 100000 (st + 2 * j) old (catG (gsD j))) lgN (j : Int) false wr ∧ OwnA G wr bw u (gsD j) ∧ bw ≤ wr.heap.size) (fun _ i _ => m - (intOf i).toNat)
      case atStart => exact ⟨0, G5, rfl, Nat.zero_le _, HL5.out, HA0.out, by omega⟩
      case round =>
        obtain ⟨j, G7, rfl, hj, hl, ha, hsz⟩ := hrel
        have HL := Lib.hid hl
        have HA := Lib.hid ha
        clear hl ha hbw
        by_cases hlt : j < m
        · have hlt' : (j : Int) < (m : Int) := by omega
          obtain ⟨bt, hbt⟩ : ∃ bt : UInt8, UInt8.ofNat (97 + j) = bt := ⟨_, rfl⟩
          have hbn : (bt.toNat : Int) = 97 + (j : Int) := by
            rw [← hbt, UInt8.toNat_ofNat']
            omega
          have hrc : rcD j = ⟨1, S [100, 101], S [bt]⟩ := by unfold rcD; rw [hbt]
          have hcv := conv_oneB wr bt
          rw [hbn] at hcv
          have KR := Lib.hid (law_rec_own (S [100, 101]) (S [bt]) wr _ ((Below.refl wr.heap.size wr).alloc (Nat.le_refl _) (.cells #[.int .u8 (97 + (j : Int))] 5)))
          rw [← hrc] at KR
          obtain ⟨t1, ht1⟩ : ∃ t1, S [bt] = t1 := ⟨_, rfl⟩
          rw [ht1] at hcv KR
          clear hbt hbn ht1 hrc
          go_wp2_with fail
          refine KR.out.mono ?_
          rintro e w7 ⟨b7, rfl, ho7, hb7⟩
          have HO7 := Lib.hid ho7
          have HL7 := Lib.hid (HL.out.below hb7)
          have HA7 := Lib.hid (HA.out.tr (Tr.of_below hb7 G7))
          have ha7 := Apart.new HL.out.dk.at_ (Nat.le_refl _) ho7
          have HP7 := Lib.hid ha7
          have hap := wd_append (q := 100000) (st := st + 2 * j) (old := old) (b := catG (gsD j)) [rcD j] (by rw [catD_len, encD_len]; omega) (by rw [catD_len, encD_len]; omega)
          rw [← catG_snoc, ← gsD_succ] at hap
          have KA := Lib.hid (wal_append HL7.out (by have := HST.out; show ((st + 2 * j : Nat) : Int) + 15 < 1000000000; omega) (by decide) ho7.rd' (Far.own ha7) (rcD_group j) (by show -9223372036854775808 ≤ (100000 : Int) ∧ (100000 : Int) < 9223372036854775808; omega) (by omega))
          rw [hap] at KA
          have hs7 := hb7.size
          clear hap ho7 hb7 ha7 KR hcv HL HA
          go_wp2_with fail
          refine KA.out.mono ?_
          rintro e w8 ⟨rfl, G8, hls, hlt8⟩
          have HL8 : Hid (Ls w1.heap.size p lb w1 G8 (wdisk 100000 (st + 2 * j + 2) old (catG (gsD (j + 1)))) lgN ((j : Int) + 1) false w8) := Lib.hid hls
          have HA8 := Lib.hid (HA7.out.lt HL7.out.lg hlt8)
          obtain ⟨hp8, ho8⟩ := own_lt HL7.out.lg HP7.out HO7.out (by decide) hlt8
          have hs8 := hlt8.size
          obtain ⟨us, hul, hus, hua, hup⟩ := HA8.out.push (own_weaken ho8 hsz) hp8 HL8.out.dk.at_
          have HUS := Lib.hid hus
          have HUA := Lib.hid hua
          have HUP := Lib.hid hup
          have hul5 : us.length = j := by rw [hul, gsD_len]
          clear hls hlt8 KA HL7 HA7 HP7 HO7 hp8 ho8 hul hus hua hup
          go_wp2_with (at_builtin; refine wpList_append_own_at _ rfl _ _ 27 rfl bw 32 i0 (.slice none 0 0) 1 24 Try.underlying27 hi hz0 hz1 hz2 rfl (by decide) _ _ _ rfl (World.ownsRow.alloc HUS.out _) ⟨_, 0, none⟩ 1 1 [.slice (some ⟨b7, 0, none⟩) 1 1] rfl rfl (cell_one_new _ _ _) (by simp [Value.oneCell']) (by have : maxLen = 9223372036854775807 := rfl; omega) (by omega) (by simp; omega) ?_; intro v' z1 hown' hgrow _ hat; have HW := Lib.hid hown'; have HG := Lib.hid hgrow; have HAT := Lib.hid hat; clear hown' hgrow hat)
          have HAz := Lib.hid (HUP.out _ z1 v' HW.out HG.out HAT.out)
          have HLz := Lib.hid ((HL8.out.below ((Below.refl w8.heap.size w8).alloc (Nat.le_refl _) _)).grown (World.ownsRow.alloc HUS.out _) HBW.out HG.out HUA.out (by decide))
          have hsz2 := HG.out.size
          simp only [World.size_alloc] at hsz2
          clear HW HG HAT
          go_roundw
          case rel => exact ⟨j + 1, G8, by go_num, by omega, by rw [show st + 2 * (j + 1) = st + 2 * j + 2 by omega]; exact HLz.out, by rw [gsD_succ]; exact HAz.out, by omega⟩
          case measure => simp [intOf]; omega
        · have hge : ¬ (j : Int) < (m : Int) := by omega
          obtain rfl : j = m := by omega
          have KC := Lib.hid (k_crash HL.out.dk (.slice A cs.length c) cs (HV1.out.below HL.out.dk.bel) HCS.out (Far.old HL.out.dk.at_ HV1.out))
          obtain ⟨Aw, cw, rfl⟩ := HA.out.sl
          have hm := HMM.out
          go_wp2_with fail
          refine KC.out.mono ?_
          rintro e w7 ⟨⟨u7, rfl⟩, G8, hd, ht⟩
          rw [wd_crash] at hd
          have HD8 := Lib.hid hd
          have HA8 := Lib.hid (HA.out.tr ht)
          have KO := Lib.hid (wal_open hd (by have := HST.out; show ((st + 2 * j : Nat) : Int) + 30 < 1000000000; omega) (nm := lgN) (by decide) (fun _ => by rw [wd_read]; exact (gB_cat _ (gsD_group j)).2))
          rw [wd_again, wd_read] at KO
          clear hd ht KC HL HA
          go_wp2_with fail
          refine KO.out.mono ?_
          rintro e w8 (⟨-, v8, lb8, G9, rfl, hlb8, hls, hag, ht⟩ | ⟨hno, -⟩)
          case inr => exact absurd rfl hno
          rw [show gsOf (catG (gsD j)) = gsD j from (gB_cat _ (gsD_group j)).1] at hag
          have HW8 := Lib.hid (HA8.out.tr ht)
          have HX8 := Lib.hid hag
          have HBL := Lib.hid hls.dk.bel
          obtain ⟨Ax, cx, rfl⟩ := hag.sl
          have KG := Lib.hid (law22_groups _ _ (gsD j) (gsD j) w8 (HX8.out.rdG (gsD_one j)) (HW8.out.rdG (gsD_one j)) (by rw [gsD_len]; omega))
          rw [decide_eq_true rfl] at KG
          clear hls hag ht KO hlb8
          go_wp2_with fail
          refine KG.out.mono ?_
          rintro e w9 ⟨rfl, hb9⟩
          have HB9 := Lib.hid hb9
          clear hb9 KG
          go_wp2_with fail
          go_ret
          exact ⟨rfl, (HB1.out.trans (HBL.out.mono HB1.out.size)).trans (HB9.out.mono (Nat.le_trans HB1.out.size HBL.out.size))⟩
end Go.Proofs.Ytmdecbockpgagaa
