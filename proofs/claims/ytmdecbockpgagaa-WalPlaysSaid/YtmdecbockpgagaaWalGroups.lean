import Derived.Test.YtmdecbockpgagaaWalRecord
import Derived.Test.YtmdecbockpgagaaIter
import Derived.Sort.BigQuietIn
/- package wal: groups as an iterator. -/
namespace Go.Proofs.Ytmdecbockpgagaa
open Go.RowKit Go.Shelf Go.Proofs.YtmdecbockpgagaaW.PrintWords Go.Proofs.YtmdecbockpgagaaW.PrintMore

attribute [local go_sem] Oper.semAt_some

/-- An own row of records. -/
def OwnR (w : World) (base : Nat) (v : Value) (rs : List Rc) : Prop := w.ownsRow base 50 3 v rs.length (rs.flatMap rcC)
theorem infoRc : (Try.prog.info? 50).map (fun i => (i.zero, i.size, i.bytes)) = some (some (.agg #[.int .u8 0, .string ByteArray.empty, .string ByteArray.empty]), 3, 40) := by kernel_rfl
theorem flat_at : ∀ (rs : List Rc) (j : Nat) (r : Rc), rs[j]? = some r → (rs.flatMap rcC)[j * 3]? = some (.int .u8 r.kind) ∧ (rs.flatMap rcC)[j * 3 + 1]? = some (.string r.tag) ∧ (rs.flatMap rcC)[j * 3 + 2]? = some (.string r.text)
  | [], j, r, h => by simp at h
  | x :: rs, 0, r, h => by
    simp only [List.getElem?_cons_zero, Option.some.injEq] at h
    subst h
    exact ⟨rfl, rfl, rfl⟩
  | x :: rs, j + 1, r, h => by
    have := flat_at rs j r (by simpa using h)
    rw [List.flatMap_cons, show (j + 1) * 3 = j * 3 + 3 by omega]
    show ((.int .u8 x.kind :: .string x.tag :: .string x.text :: rs.flatMap rcC : List Value)[j * 3 + 3]? = _) ∧ ((.int .u8 x.kind :: .string x.tag :: .string x.text :: rs.flatMap rcC : List Value)[j * 3 + 3 + 1]? = _) ∧ ((.int .u8 x.kind :: .string x.tag :: .string x.text :: rs.flatMap rcC : List Value)[j * 3 + 3 + 2]? = _)
    rw [show j * 3 + 3 + 1 = (j * 3 + 1) + 3 by omega, show j * 3 + 3 + 2 = (j * 3 + 2) + 3 by omega]
    simpa using this
theorem OwnR.rd {w : World} {base : Nat} {v : Value} {rs : List Rc} (h : OwnR w base v rs) (hm : rs.length ≤ 9223372036854775807) : RdR w v rs := by
  have h' := h
  rcases h.2 with ⟨rfl, h0⟩ | ⟨g, cap, cur, rfl, _, hg, hc, _, _, _⟩
  · have : rs = [] := List.length_eq_zero_iff.1 h0
    subst this
    exact RdR.nil w
  · refine ⟨some ⟨g, 0, none⟩, cap, rfl, hc, hm, fun _ => ⟨_, rfl, fun j r hj => ?_⟩⟩
    obtain ⟨h1, h2, h3⟩ := flat_at rs j r hj
    rw [add_plain]
    have e1 := h'.cells rfl _ _ h1
    have e2 := h'.cells rfl _ _ h2
    have e3 := h'.cells rfl _ _ h3
    rw [add_plain] at e1 e2 e3
    exact ⟨e1, e2, e3⟩
/-- Rows of bytes, of such rows, of records lie as they lay. -/
def Kg (X Y : World) : Prop := X.heap.size ≤ Y.heap.size ∧ ∀ (k : Nat) (cs : Array Value) (t : TypeId) (fz : Nat × Nat), X.heap[k]? = some (.cells cs t fz) → (t = 5 ∨ t = 22 ∨ t = 50) → Y.heap[k]? = some (.cells cs t fz)
theorem Kg.refl (X : World) : Kg X X := ⟨Nat.le_refl _, fun _ _ _ _ h _ => h⟩
theorem Kg.trans {X Y Z : World} (h : Kg X Y) (k : Kg Y Z) : Kg X Z := ⟨Nat.le_trans h.1 k.1, fun b cs t fz hb ht => k.2 b cs t fz (h.2 b cs t fz hb ht) ht⟩
theorem Kg.of_below {X Y : World} (h : Below X.heap.size X Y) : Kg X Y := ⟨h.size, fun k _ _ _ hk _ => (h.block k (Array.getElem?_eq_some_iff.1 hk).1).trans hk⟩
theorem Kg.own {X Y : World} (t : Kg X Y) {base : Nat} {e : TypeId} {size : Nat} {v : Value} {n : Nat} {xs : List Value} (h : X.ownsRow base e size v n xs) (he : e = 5 ∨ e = 22 ∨ e = 50) : Y.ownsRow base e size v n xs := by
  refine ⟨h.1, ?_⟩
  rcases h.2 with h | ⟨g, cap, cur, rfl, hb, hg, hr⟩
  · exact .inl h
  · exact .inr ⟨g, cap, cur, rfl, hb, t.2 g _ _ _ hg he, hr⟩
/-- What a frame takes. -/
theorem next_sum {bs : List Int} (h : NextOk bs) : (nextX bs).length + 8 + (nextR bs).length = bs.length := by
  obtain ⟨h1, h2, h3, -⟩ := h
  have hv : 0 ≤ val (bs.take 4) ∨ val (bs.take 4) < 0 := by omega
  unfold nextX nextR
  rw [List.length_take, List.length_drop, List.length_drop, List.length_drop]
  omega
theorem allB_at {bs : List Int} {k : Nat} (h : AllN bs k) : (allB bs).length = k ∧ ∀ j, j < k → (allB bs)[j]? = some (nextX (restAt bs j)) := by
  rw [← allB_rows h]
  unfold rowsOf
  refine ⟨by simp, fun j hj => by simp [hj]⟩
/-- A group's row, and the place behind it. -/
abbrev GEl := Value × Nat
def GG (bs : List Int) (n₀ : Nat) (pre : List GEl) (x : GEl) (W : World) : Prop := ∃ g, (gB bs)[pre.length]? = some (g, x.2) ∧ OwnR W n₀ x.1 g
/-- A call whose guard is off. -/
theorem skip_off {f : FuncId} {K : Act → World → Prop} {a : Act} {w : World} (h : K a w) : Fence.wide.fn f ∧ K a w := ⟨trivial, h⟩
theorem add_one (a : Addr) : a.add 1 = ⟨a.block, a.off + 1, none⟩ := by
  unfold Addr.add
  rw [if_neg (by omega)]
theorem cell_three (W : World) (x y z : Value) (t : TypeId) : ∀ (j : Nat) (u : Value), [x, y, z][j]? = some u → (W.alloc (.cells #[x, y, z] t)).cell? ((⟨W.heap.size, 0, none⟩ : Addr).add j) = some u := by
  intro j u hj
  rw [add_plain]
  refine cells_blk (alloc_new W _) j u ?_
  match j, hj with
  | 0, h => exact h
  | 1, h => exact h
  | 2, h => exact h
theorem end_no {x : List Int} {now : List Rc} (h : ¬ (x = [3, (now.length : Int)] ∧ groupB now = true)) (hr : recOf x = none) (xs : List (List Int)) (a : Nat) : groupsF (x :: xs) now a = [] := by
  unfold groupsF
  rw [hr]
  exact if_neg h
/-- A row of rows at an index. -/
theorem rows_at {W : World} {base : Nat} {v : Value} {us : List Value} (h : W.ownsRow base 22 1 v us.length us) {k : Nat} (hk : k < us.length) :
    ∃ g cap, v = .slice (some ⟨g, 0, none⟩) us.length cap ∧ (∀ W', (Instr.indexAt 102 (.slice (some ⟨g, 0, none⟩) us.length cap) (.int .i64 (k : Int))).run Try.prog W' = .ok (.pointer (some ⟨g, k, none⟩)) W') ∧ W.cell? ⟨g, k, none⟩ = some us[k] := by
  have h' := h
  rcases h.2 with ⟨rfl, h0⟩ | ⟨g, cap, cur, rfl, _, hg, hc, _, _, _⟩
  · omega
  · refine ⟨g, cap, rfl, fun W' => ?_, by have := h'.cells rfl _ _ (List.getElem?_eq_getElem hk); rwa [add_plain] at this⟩
    have h2 : 0 ≤ (k : Int) ∧ (k : Int) < (us.length : Int) := ⟨by omega, by omega⟩
    have h3 : ({ block := g, off := 0, spot := none } : Addr).add k = ⟨g, k, none⟩ := by
      unfold Addr.add; split <;> simp_all
    go_simp
theorem own_apart {W W1 : World} {b1 b2 : Nat} {e1 e2 : TypeId} {s1 s2 : Nat} {v1 v2 : Value} {n1 n2 : Nat} {x1 x2 : List Value} (h1 : W.ownsRow b1 e1 s1 v1 n1 x1) (h2 : W.ownsRow b2 e2 s2 v2 n2 x2) (hne : e1 ≠ e2) (hg : W.grownBy W1 v2.ownBlock) : W1.ownsRow b1 e1 s1 v1 n1 x1 :=
  row_same h1 (fun k hk hky => hg.block k hk (fun e => by
    rcases rows_apart h1 h2 hne with h | h
    · rw [h] at hky; cases hky
    · exact h (hky.symm.trans e)))
theorem OwnR.sl {w : World} {base : Nat} {v : Value} {rs : List Rc} (h : OwnR w base v rs) : ∃ A c, v = .slice A rs.length c := by
  rcases h.2 with ⟨rfl, h0⟩ | ⟨g, cap, cur, rfl, _⟩
  · exact ⟨none, 0, by rw [h0]⟩
  · exact ⟨_, _, rfl⟩
theorem cell_three' (W : World) (o : Obj) (x y z : Value) (t : TypeId) : ∀ (j : Nat) (u : Value), [x, y, z][j]? = some u → ((W.alloc o).alloc (.cells #[x, y, z] t)).cell? ((⟨W.heap.size + 1, 0, none⟩ : Addr).add j) = some u := by
  have := cell_three (W.alloc o) x y z t
  rwa [World.size_alloc] at this
/-- What lies between two rounds. -/
structure GI (bs : List Int) (n₀ : Nat) (J : List GEl → World → Prop) (va : Value) (us : List Value) (b2 : Nat) (k : Nat) (a : Nat) (nv : Value) (wr : World) (pre : List GEl) (dn : List (List Rc × Nat)) (nl : List Rc) (WJ : World) : Prop where
  at_ : a + (restAt bs k).length = bs.length
  all : gB bs = dn ++ groupsF ((allB bs).drop k) nl a
  dl : dn.length = pre.length
  nk : nl.length ≤ k
  j : J pre WJ
  bel : Below WJ.heap.size WJ wr
  base : n₀ ≤ WJ.heap.size
  now : OwnR wr WJ.heap.size nv nl
  rows : wr.ownsRow b2 22 1 va us.length us
  each : ∀ i y, us[i]? = some y → OwnB wr b2 y (nextX (restAt bs i))
set_option maxRecDepth 100000 in
set_option maxHeartbeats 4000000 in
theorem groups1_in (n l Bn n₀ B : Nat) (hn : 1 ≤ n) (w₀ : World) (v : Value) (bs : List Int) (hr : RdB w₀ v bs) (hby : By bs) (hlen : bs.length ≤ 1000000000) (J Jx : List GEl → World → Prop)
    (hJ : ∀ s X Y, J s X → Turn B (fun _ => False) X Y → J s Y)
    (hY : ∀ pre x W1, J pre W1 → GG bs n₀ pre x W1 → YieldAt Fence.wide (n - 1) Try.prog l #[x.1, .int .i64 (x.2 : Int)] W1 fun e W' =>
      (e = .returned (.bool true) ∧ J (pre ++ [x]) W' ∧ Kg W1 W') ∨ (e = .returned (.bool false) ∧ Jx (pre ++ [x]) W'))
    (W : World) (hW : Below w₀.heap.size w₀ W) (hn₀ : n₀ ≤ W.heap.size) (hbox : Boxed W Bn 22 v) (h0 : J [] W) :
    CallsIn Fence.wide n Try.prog 70 #[.func (.yield l) #[] #[], .pointer (some ⟨Bn, 0, none⟩)] W fun e W' => (∃ v, e = .returned v) ∧
      ((∃ ys : List GEl, ys.length = (gB bs).length ∧ J ys W') ∨ (∃ pre, True ∧ Jx pre W')) := by
  obtain ⟨i0, hi, hz0, hz1, hz2⟩ := info_parts infoRc
  have hrb := hr.below hW
  have KA := Lib.hid (frame_allO v bs W hrb hby (by omega))
  obtain ⟨A, c, rfl, hc, -⟩ := hrb
  have hcell := hbox.cell
  have HJ := Lib.hid hJ
  have HY := Lib.hid hY
  have HBY := Lib.hid hby
  clear hJ hY hr hby hW hbox
  refine callsIn_of_wp Try.func70 rfl trivial ?_ rfl
  simp only [Try.ntmps70, List.size_toArray, List.length_cons, List.length_nil, Nat.reduceAdd, Nat.reduceSub, Array.replicate_succ, Array.replicate_zero, List.push_toArray, List.append_toArray, List.nil_append, List.cons_append]
  gi_wp2_with fail
  refine ⟨trivial, (callsIn_wide.2 KA.out).mono ?_⟩
  rintro e w2 ⟨K, va, us, hN, rfl, rfl, hK9, hrow, hrows, hb2⟩
  have HN := Lib.hid hN
  obtain ⟨b2, hb2s⟩ : ∃ b, W.heap.size = b := ⟨_, rfl⟩
  have hI0 : GI bs n₀ J va us b2 0 0 (.slice none 0 0) w2 [] [] [] w2 :=
    ⟨by show 0 + bs.length = _; omega, rfl, rfl, Nat.le_refl _, HJ.out _ _ _ h0 (Turn.of_below _ _ hb2), Below.refl _ _, Nat.le_trans hn₀ hb2.size, World.ownsRow_nil _ _ _ _, by rw [← hb2s]; exact hrow, by rw [← hb2s]; exact hrows⟩
  have HI0 := Lib.hid hI0
  obtain ⟨rs0, hrs0⟩ : ∃ r, (restAt bs us.length).length = r := ⟨_, rfl⟩
  obtain ⟨A2, c2, rfl, -⟩ : ∃ A c, va = .slice A us.length c ∧ us.length ≤ c := by
    rcases hrow.2 with ⟨rfl, h0⟩ | ⟨g, cap, cur, rfl, _, hg, hc, _, _, _⟩
    · exact ⟨none, 0, by rw [h0], by rw [h0]; exact Nat.le_refl _⟩
    · exact ⟨_, _, rfl, hc⟩
  clear hN hrow hrows hb2 hI0 h0 KA hcell hb2s hn₀
  gi_wp2_with fail
  gi_loopw [3, 6, 18] (fun nv av i wr => ∃ (k a : Nat) (pre : List GEl) (dn : List (List Rc × Nat)) (nl : List Rc) (WJ : World), i = .int .i64 (k : Int) ∧ k ≤ us.length ∧ av = .int .i64 (a : Int) ∧ GI bs n₀ J (.slice A2 us.length c2) us b2 k a nv wr pre dn nl WJ) (fun _ _ i _ => us.length - (intOf i).toNat)
  case atStart => exact ⟨0, 0, [], [], [], w2, rfl, Nat.zero_le _, rfl, HI0.out⟩
  case round =>
    obtain ⟨k, a, pre, dn, nl, WJ, rfl, hk, rfl, hI⟩ := hrel
    have HI := Lib.hid hI
    clear hI
    by_cases hlt : k < us.length
    · have hlt' : (k : Int) < (us.length : Int) := by omega
      have hnok : NextOk (restAt bs k) := HN.out.1 k hlt
      have hsum := next_sum hnok
      obtain ⟨g, cap, hv, hx, hck⟩ := rows_at HI.out.rows hlt
      injection hv with hv1 _ hv2
      subst hv1 hv2
      obtain ⟨y, hy⟩ : ∃ y, us[k] = y := ⟨_, rfl⟩
      rw [hy] at hck
      have hoy := HI.out.each k y (by rw [List.getElem?_eq_getElem hlt, hy])
      obtain ⟨x, hxx⟩ : ∃ x, nextX (restAt bs k) = x := ⟨_, rfl⟩
      have hxb : By x := by rw [← hxx]; exact ((restAt_by HBY.out k).drop 8).take _
      have hat := HI.out.at_
      rw [hxx] at hoy hsum
      have hrest : (restAt bs (k + 1)).length = (nextR (restAt bs k)).length := rfl
      have hxl : x.length ≤ 1000000000 := by omega
      have hat2 : (a + (x.length + 8)) + (restAt bs (k + 1)).length = bs.length := by rw [hrest]; omega
      have hal : (allB bs).drop k = x :: (allB bs).drop (k + 1) := by
        obtain ⟨e1, e2⟩ := allB_at HN.out
        have := e2 k hlt
        rw [hxx] at this
        obtain ⟨h3, h4⟩ := List.getElem?_eq_some_iff.1 this
        rw [List.drop_eq_getElem_cons h3, h4]
      have HAT2 := Lib.hid hat2
      have HAL := Lib.hid hal
      obtain ⟨b, hb⟩ : ∃ b, a + (x.length + 8) = b := ⟨_, rfl⟩
      have hab : (a : Int) + ((frameB x).length : Int) = (b : Int) := by rw [frameB_length]; omega
      have hbb : b ≤ 1000000000 := by omega
      rw [hb] at HAT2
      have HB := Lib.hid hb
      have hfl : (frameB x).length ≤ 1000000008 := by rw [frameB_length]; omega
      obtain ⟨fx, hfx⟩ : ∃ fx, frameB x = fx := ⟨_, rfl⟩
      obtain ⟨Ay, cy, rfl, hcy, hry⟩ := hoy.rd
      have KF := Lib.hid (frame_frame (.slice Ay x.length cy) x wr hoy.rd hxb (by omega))
      rw [hfx] at KF hab hfl
      have KR := Lib.hid (fun (X : World) (hb : Below wr.heap.size wr X) => wal_record (.slice Ay x.length cy) x X (hoy.rd.below hb) hxb)
      have HXX := Lib.hid hxx
      have HRY := Lib.hid hry
      have HXB := Lib.hid hxb
      clear hnok hsum hy hoy hxx hat hrest hat2 hal hb hxb hry hfx
      gi_wp2_with fail
      refine ⟨trivial, (callsIn_wide.2 KF.out).mono ?_⟩
      rintro e w3 ⟨vf, rfl, hof, hb3⟩
      obtain ⟨Af, cf, rfl, -, -⟩ := hof.rd
      have HB3 := Lib.hid hb3
      have KR3 := Lib.hid (KR.out w3 hb3)
      clear hof hb3 KF KR
      gi_wp2_with fail
      refine ⟨trivial, (callsIn_wide.2 KR3.out).mono ?_⟩
      rintro e w4 ⟨r, rfl, hrr, hb4⟩
      have HB4 := Lib.hid (HB3.out.trans (hb4.mono HB3.out.size))
      obtain ⟨ok, hok⟩ : ∃ ok, (recOf x).isSome = ok := ⟨_, rfl⟩
      rw [hok]
      obtain ⟨kd, tg, tx⟩ := r
      have HRR := Lib.hid hrr
      have HOK := Lib.hid hok
      unfold rcV
      clear hb4 KR3 HB3 hrr hok hx hck
      obtain ⟨An, cn, rfl⟩ := HI.out.now.sl
      have hB1 := (Below.refl w4.heap.size w4).alloc (Nat.le_refl _) (.cells #[.int .u8 kd, .string tg, .string tx] 50)
      have HB5 := Lib.hid (HB4.out.trans (hB1.mono HB4.out.size))
      have h8 := restAt_sum (k := us.length) HN.out.1
      have hnk := HI.out.nk
      cases ok with
      | true =>
        have HRC : Hid (recOf x = some ⟨kd, tg, tx⟩) := Lib.hid (by
          have := HOK.out
          cases hrc : recOf x with
          | none => rw [hrc] at this; cases this
          | some r' => rw [HRR.out r' hrc])
        have HGN : Hid (groupsF ((allB bs).drop k) nl a = groupsF ((allB bs).drop (k + 1)) (nl ++ [⟨kd, tg, tx⟩]) b) := Lib.hid (by
          rw [HAL.out, groupsF, HRC.out, ← HB.out])
        have hB2 := hB1.alloc (by simp) (.cells #[.int .u8 kd, .string tg, .string tx] 50)
        have HB6 := Lib.hid (HB4.out.trans (hB2.mono HB4.out.size))
        have HON := Lib.hid (pw_own_below HI.out.now HB6.out)
        have HO2 := Lib.hid (pw_own_below HI.out.rows HB6.out)
        have HO3 := Lib.hid (fun i y hy => (HI.out.each i y hy).below HB6.out)
        have hbs := HI.out.bel.size
        have hbs2 := HB6.out.size
        clear hB1 hB2
        gi_wp2_with (gi_at_builtin; refine wpListIn_append_own _ rfl _ _ 32 rfl WJ.heap.size 50 i0 (.agg #[.int .u8 0, .string ByteArray.empty, .string ByteArray.empty]) 3 40 Try.underlying32 hi hz0 hz1 hz2 rfl (by decide) _ _ _ rfl HON.out ⟨w4.heap.size + 1, 0, none⟩ 1 1 [.int .u8 kd, .string tg, .string tx] rfl rfl (cell_three' _ _ _ _ _ _) (by simp [Value.oneCell']) (by have : maxLen = 9223372036854775807 := rfl; omega) (by omega) (by omega) ?_; intro v' w6 hown' hgrow _)
        have hnow : OwnR w6 WJ.heap.size v' (nl ++ [⟨kd, tg, tx⟩]) := by
          show w6.ownsRow _ _ _ _ _ _
          rw [List.length_append, List.flatMap_append]
          exact hown'
        have hlt2 := fun k (e : (Value.slice An nl.length cn).ownBlock = some k) => (World.ownsRow.lt HON.out k e).1
        have HG : Hid (GI bs n₀ J (.slice (some ⟨g, 0, none⟩) us.length c2) us b2 (k + 1) b v' w6 pre dn (nl ++ [⟨kd, tg, tx⟩]) WJ) := Lib.hid {
          at_ := by have := HAT2.out; exact this
          all := by rw [← HGN.out]; exact HI.out.all
          dl := HI.out.dl
          nk := by rw [List.length_append, List.length_singleton]; omega
          j := HI.out.j
          bel := (HI.out.bel.trans (HB6.out.mono HI.out.bel.size)).grown hgrow (by omega) hlt2
          base := HI.out.base
          now := hnow
          rows := own_apart HO2.out HON.out (by decide) hgrow
          each := fun i y hy => own_apart (HO3.out i y hy) HON.out (by decide) hgrow }
        clear hnow hown' hgrow hlt2 HON HO2 HO3
        gi_wp2_with fail
        go_roundw
        case rel => exact ⟨k + 1, b, pre, dn, _, WJ, by go_num, by omega, rfl, HG.out⟩
        case measure => simp [intOf]; omega
      | false =>
        have HRC : Hid (recOf x = none) := Lib.hid (by
          have := HOK.out
          cases hrc : recOf x with
          | none => rfl
          | some r' => rw [hrc] at this; cases this)
        have HEND : Hid (¬ (x = [3, (nl.length : Int)] ∧ groupB nl = true) → pre.length = (gB bs).length) := Lib.hid (fun h => by
          have h1 := HI.out.all
          rw [HAL.out, end_no h HRC.out, List.append_nil] at h1
          rw [h1, HI.out.dl])
        have HB7 := Lib.hid (HI.out.bel.trans (HB5.out.mono HI.out.bel.size))
        have HON := Lib.hid (pw_own_below HI.out.now HB5.out)
        have hbs := HI.out.bel.size
        have hbs2 := HB5.out.size
        have KG := Lib.hid (wal_group (.slice An nl.length cn) nl (w4.alloc (.cells #[.int .u8 kd, .string tg, .string tx] 50)) (OwnR.rd HON.out (by omega)))
        clear hB1
        by_cases h2 : x.length = 2
        · have h2' : (x.length : Int) = 2 := by omega
          obtain ⟨p, q, hpq⟩ : ∃ p q, x = [p, q] := by
            match x, h2 with
            | [p, q], _ => exact ⟨p, q, rfl⟩
          have hry2 := HRY.out.below HB5.out
          have hcp : 0 < x.length := by omega
          obtain ⟨ad, hA, hcl⟩ := hry2.2.2 hcp
          have hc0 := hcl 0 (by omega)
          have hc1 := hcl 1 (by omega)
          rw [show ad.add 0 = ad from rfl] at hc0
          rw [hpq] at hc0 hc1
          simp only [List.getD_cons_zero, List.getD_cons_succ] at hc0 hc1
          subst hA
          have hpb := HXB.out p (by rw [hpq]; simp)
          have hqb := HXB.out q (by rw [hpq]; simp)
          have hix0 : ∀ W, (Instr.indexAt 22 (.slice (some ad) x.length cy) (.int .i64 0)).run Try.prog W = .ok (.pointer (some ad)) W := fun W => by
            have h6 : 0 ≤ (0 : Int) ∧ (0 : Int) < (x.length : Int) := ⟨by omega, by omega⟩
            have h7 : ¬ x.length = 0 := by omega
            go_simp
          have hix1 : ∀ W, (Instr.indexAt 22 (.slice (some ad) x.length cy) (.int .i64 1)).run Try.prog W = .ok (.pointer (some (ad.add 1))) W := fun W => by
            have h6 : 0 ≤ (1 : Int) ∧ (1 : Int) < (x.length : Int) := ⟨by omega, by omega⟩
            have h7 : 1 < x.length := by omega
            go_simp
          rw [add_one] at hc1 hix1
          have HPQ := Lib.hid hpq
          clear hry2 hcl hpq
          by_cases h3 : p = 3
          · subst h3
            by_cases h4 : q = (nl.length : Int)
            · subst h4
              obtain ⟨gk, hgk⟩ : ∃ gk, groupB nl = gk := ⟨_, rfl⟩
              rw [hgk] at KG
              have HGK := Lib.hid hgk
              clear hgk
              gi_wp2_with fail
              refine ⟨trivial, (callsIn_wide.2 KG.out).mono ?_⟩
              rintro e w5 ⟨rfl, hb5⟩
              have HB8 := Lib.hid (HB7.out.trans (hb5.mono (Nat.le_trans hbs hbs2)))
              cases gk with
              | false =>
                have HNO : Hid (¬ (x = [3, (nl.length : Int)] ∧ groupB nl = true)) := Lib.hid (fun h => by rw [HGK.out] at h; exact absurd h.2 (by decide))
                clear hix0 hix1 hc0 hc1 hb5 KG
                gi_wp2_with fail
                repeat ((first | refine skip_off ?_ | refine ⟨fun _ h => (by cases h), ?_⟩); gi_wp2_with fail)
                refine bodyPost_ret (results_none rfl _ _ _) rfl ?_
                exact ⟨⟨_, rfl⟩, .inl ⟨pre, HEND.out HNO.out, HJ.out _ _ _ HI.out.j (Turn.of_below _ _ HB8.out)⟩⟩
              | true =>
                have HGN : Hid (groupsF ((allB bs).drop k) nl a = (nl, b) :: groupsF ((allB bs).drop (k + 1)) [] b) := Lib.hid (by
                  rw [HAL.out, groupsF, HRC.out]
                  simp only
                  rw [if_pos ⟨HPQ.out, HGK.out⟩, HB.out])
                have HAT : Hid ((gB bs)[pre.length]? = some (nl, b)) := Lib.hid (by
                  rw [HI.out.all, HGN.out, ← HI.out.dl, List.getElem?_append_right (Nat.le_refl _), Nat.sub_self]
                  rfl)
                have hJ5 := HJ.out _ _ _ HI.out.j (Turn.of_below B (fun _ => False) HB8.out)
                have hB9 := HB5.out.trans (hb5.mono HB5.out.size)
                have hG5 : GG bs n₀ pre (.slice An nl.length cn, b) w5 := ⟨nl, HAT.out, own_weaken (pw_own_below HI.out.now hB9) HI.out.base⟩
                obtain ⟨fn, tmps, assign, body, hy, hR⟩ := HY.out pre _ w5 hJ5 hG5
                have HR2 := Lib.hid (pw_own_below HI.out.rows hB9)
                have HR3 := Lib.hid (fun i y hy => (HI.out.each i y hy).below hB9)
                have HBS := Lib.hid (Nat.le_trans HI.out.base (Nat.le_trans hbs (Nat.le_trans hbs2 hb5.size)))
                clear hJ5 hG5 hB9 hb5 hix0 hix1 hc0 hc1 KG
                dsimp only at hy
                have HN1 := Lib.hid hn
                clear hn
                gi_wp2_with fail
                refine ⟨fun h => absurd h (by decide), hR.mono ?_⟩
                have hn := HN1.out
                rintro e w7 (⟨rfl, hJ3, hk3⟩ | ⟨rfl, hJx3⟩)
                · have HG : Hid (GI bs n₀ J (.slice (some ⟨g, 0, none⟩) us.length c2) us b2 (k + 1) b (.slice none 0 0) w7 (pre ++ [(.slice An nl.length cn, b)]) (dn ++ [(nl, b)]) [] w7) := Lib.hid {
                    at_ := HAT2.out
                    all := by rw [List.append_assoc, List.singleton_append, ← HGN.out]; exact HI.out.all
                    dl := by rw [List.length_append, List.length_append, HI.out.dl]; rfl
                    nk := Nat.zero_le _
                    j := hJ3
                    bel := Below.refl _ _
                    base := Nat.le_trans HBS.out hk3.1
                    now := World.ownsRow_nil _ _ _ _
                    rows := hk3.own HR2.out (.inr (.inl rfl))
                    each := fun i y hy => hk3.own (HR3.out i y hy) (.inl rfl) }
                  clear hJ3 hk3 HR2 HR3
                  gi_wp2_with fail
                  go_roundw
                  case rel => exact ⟨k + 1, b, _, _, _, w7, by go_num, by omega, rfl, HG.out⟩
                  case measure => simp [intOf]; omega
                · gi_wp2_with fail
                  refine bodyPost_ret (results_none rfl _ _ _) rfl ?_
                  exact ⟨⟨_, rfl⟩, .inr ⟨_, trivial, hJx3⟩⟩
            · have h4' : (q == (nl.length : Int)) = false := by rw [beq_eq_false_iff_ne]; exact h4
              have HNO : Hid (¬ (x = [3, (nl.length : Int)] ∧ groupB nl = true)) := Lib.hid (fun h => by
                have h5 := h.1
                rw [HPQ.out] at h5
                injection h5 with _ h5
                injection h5 with h5
                exact h4 h5)
              gi_wp2_with fail
              repeat ((first | refine skip_off ?_ | refine ⟨fun _ h => (by cases h), ?_⟩); gi_wp2_with fail)
              refine bodyPost_ret (results_none rfl _ _ _) rfl ?_
              exact ⟨⟨_, rfl⟩, .inl ⟨pre, HEND.out HNO.out, HJ.out _ _ _ HI.out.j (Turn.of_below _ _ HB7.out)⟩⟩
          · have h3' : (p == 3) = false := by rw [beq_eq_false_iff_ne]; exact h3
            have HNO : Hid (¬ (x = [3, (nl.length : Int)] ∧ groupB nl = true)) := Lib.hid (fun h => by
              have h5 := h.1
              rw [HPQ.out] at h5
              injection h5 with h5
              exact h3 h5)
            gi_wp2_with fail
            repeat ((first | refine skip_off ?_ | refine ⟨fun _ h => (by cases h), ?_⟩); gi_wp2_with fail)
            refine bodyPost_ret (results_none rfl _ _ _) rfl ?_
            exact ⟨⟨_, rfl⟩, .inl ⟨pre, HEND.out HNO.out, HJ.out _ _ _ HI.out.j (Turn.of_below _ _ HB7.out)⟩⟩
        · have h2' : ((x.length : Int) == 2) = false := by rw [beq_eq_false_iff_ne]; omega
          have HNO : Hid (¬ (x = [3, (nl.length : Int)] ∧ groupB nl = true)) := Lib.hid (fun h => h2 (by rw [h.1]; rfl))
          gi_wp2_with fail
          repeat ((first | refine skip_off ?_ | refine ⟨fun _ h => (by cases h), ?_⟩); gi_wp2_with fail)
          refine bodyPost_ret (results_none rfl _ _ _) rfl ?_
          exact ⟨⟨_, rfl⟩, .inl ⟨pre, HEND.out HNO.out, HJ.out _ _ _ HI.out.j (Turn.of_below _ _ HB7.out)⟩⟩
    · have hge : ¬ (k : Int) < (us.length : Int) := by omega
      obtain rfl : k = us.length := by omega
      have HE : Hid (dn.length = (gB bs).length) := Lib.hid (by
        have h1 := HI.out.all
        rw [List.drop_eq_nil_of_le (by rw [(allB_at HN.out).1]; exact Nat.le_refl _)] at h1
        have h2 : groupsF [] nl a = [] := rfl
        rw [h2, List.append_nil] at h1
        rw [h1])
      gi_wp2_with fail
      refine bodyPost_end (results_none rfl _ _ _) rfl ?_
      exact ⟨⟨_, rfl⟩, .inl ⟨pre, by rw [← HE.out, HI.out.dl], HJ.out _ _ _ HI.out.j (Turn.of_below _ _ HI.out.bel)⟩⟩
end Go.Proofs.Ytmdecbockpgagaa
