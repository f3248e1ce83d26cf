import Derived.Test.YtmdecbockpgagaaWalLogs
/- package wal: Open, where the file ends with a group. -/
namespace Go.Proofs.Ytmdecbockpgagaa
open Go.RowKit Go.Maps Go.Proofs.YtmdecbockpgagaaW.PrintWords Go.Proofs.YtmdecbockpgagaaW.PrintMore
variable {B p lb : Nat} {w0 : World} {G : DG} {d : DS} {w w' : World} {nm : Nm} {ng : Int} {br : Bool}

/-- An own row of groups, apart from a disk. -/
def OwnA (G : DG) (w : World) (base : Nat) (v : Value) (gs : List (List Rc)) : Prop := ∃ us : List Value, us.length = gs.length ∧ w.ownsRow base 32 1 v us.length us ∧ Apart G v ∧ ∀ (i : Nat) (y : Value) (g : List Rc), us[i]? = some y → gs[i]? = some g → OwnR w base y g ∧ Apart G y
theorem OwnA.new {base : Nat} {v : Value} {gs : List (List Rc)} (h : At B G d w) (hb : w.heap.size ≤ base) (ho : OwnG w' base v gs) : OwnA G w' base v gs := by
  obtain ⟨us, h1, h2, h3⟩ := ho
  exact ⟨us, h1, h2, Apart.new h hb h2, fun i y g hy hg => ⟨h3 i y g hy hg, Apart.new h hb (h3 i y g hy hg)⟩⟩
theorem OwnA.tr {base : Nat} {v : Value} {gs : List (List Rc)} {G' : DG} (h : OwnA G w base v gs) (ht : Tr w G w' G') : OwnA G' w' base v gs := by
  obtain ⟨us, h1, h2, h3, h4⟩ := h
  obtain ⟨a, b⟩ := h3.tr h2 ht
  refine ⟨us, h1, b, a, fun i y g hy hg => ?_⟩
  obtain ⟨h5, h6⟩ := h4 i y g hy hg
  obtain ⟨c, e⟩ := h6.tr h5 ht
  exact ⟨e, c⟩
theorem own_lt {lb : Nat} {G' : DG} {base : Nat} {e : TypeId} {size n : Nat} {v : Value} {xs : List Value} (hl : Lg w lb p nm ng br) (h : Apart G v) (ho : w.ownsRow base e size v n xs) (he : e ≠ 64) (ht : LT lb w G w' G') : Apart G' v ∧ w'.ownsRow base e size v n xs := by
  have hne : ∀ g, v.ownBlock = some g → g ≠ lb := fun g hg hgl => by
    rcases ho.2 with ⟨rfl, _⟩ | ⟨g', cap, cur, rfl, _, hg', _⟩
    · cases hg
    · cases hg
      have hgl' : g' = lb := hgl
      rw [hgl', show w.heap[lb]? = _ from hl] at hg'
      injection hg' with hg'
      injection hg' with _ h2
      exact he h2.symm
  exact ⟨fun g hg hh => h g hg (ht.foot g (World.ownsRow.lt ho g hg).2 hh), own_keep ho (fun g hg => ht.block g (World.ownsRow.lt ho g hg).2 (h g hg) (hne g hg))⟩
theorem OwnA.lt {lb : Nat} {base : Nat} {v : Value} {gs : List (List Rc)} {G' : DG} (h : OwnA G w base v gs) (hl : Lg w lb p nm ng br) (ht : LT lb w G w' G') : OwnA G' w' base v gs := by
  obtain ⟨us, h1, h2, h3, h4⟩ := h
  obtain ⟨a, b⟩ := own_lt hl h3 h2 (by decide) ht
  refine ⟨us, h1, b, a, fun i y g hy hg => ?_⟩
  obtain ⟨h5, h6⟩ := h4 i y g hy hg
  obtain ⟨c, e⟩ := own_lt hl h6 h5 (by decide) ht
  exact ⟨e, c⟩
theorem OwnA.sl {base : Nat} {v : Value} {gs : List (List Rc)} (h : OwnA G w base v gs) : ∃ A c, v = .slice A gs.length c := by
  obtain ⟨us, h1, h2, -⟩ := h
  rcases h2.2 with ⟨rfl, h0⟩ | ⟨g, cap, cur, rfl, _⟩
  · exact ⟨none, 0, by rw [← h1, h0]⟩
  · exact ⟨_, _, by rw [h1]⟩
theorem read_by (h : Dk B p w0 G d w) (s : Nm) : By (d.read s).2 ∧ (d.read s).2.length ≤ 400000 := by
  unfold DS.read
  split
  · exact ⟨By.nil, by simp⟩
  · split
    · exact ⟨By.nil, by simp⟩
    · rename_i i _
      show By (bytesIn d i) ∧ (bytesIn d i).length ≤ 400000
      unfold bytesIn
      cases hf : d.files[i]? with
      | none => exact ⟨By.nil, by simp⟩
      | some f => exact ⟨h.at_.files.bys i f hf, (h.ok.bytes f (List.mem_of_getElem? hf)).1⟩
/-- A store into the log's own block, that is new. -/
theorem Tr.trans_set {G' : DG} {lb : Nat} (h : Tr w G w' G') (hnew : w.heap.size ≤ lb) (n : Int) : Tr w G (w'.setCell ⟨lb, 2, none⟩ (.int .i64 n)) G' :=
  ⟨h.os, h.tape, h.output, Nat.le_trans h.size (KeepsWalks.setCell w' _ _).size, fun k hk hn => (Below.heap_setCell w' ⟨lb, 2, none⟩ _ k (by show k ≠ lb; omega)).trans (h.block k hk hn), h.p, h.foot⟩
/-- What Open does on its disk, where the file ends with a group. -/
def openW (nm : Nm) (d : DS) : Int × DS := if (d.read nm).1 = 200 then freshW nm d else if (d.read nm).1 ≠ 0 then ((d.read nm).1, d) else keepsW nm d
def OpenP (B p : Nat) (w0 : World) (nm : Nm) (G : DG) (r : Int × DS) (gs : List (List Rc)) (w : World) (e : Ending) (w' : World) : Prop :=
  (r.1 = 0 ∧ ∃ v lb G', e = .returned (.tuple #[pv lb, v, .int .i64 0]) ∧ w.heap.size ≤ lb ∧ Ls B p lb w0 G' r.2 nm (gs.length : Int) false w' ∧ OwnA G' w' w.heap.size v gs ∧ Tr w G w' G') ∨
  (r.1 ≠ 0 ∧ e = .returned (.tuple #[.pointer none, .slice none 0 0, .int .i64 r.1]) ∧ ∃ G', Dk B p w0 G' r.2 w' ∧ Tr w G w' G')
set_option maxRecDepth 100000 in
set_option maxHeartbeats 4000000 in
theorem wal_open (h : Dk B p w0 G d w) (hst : d.steps + 30 < 1000000000) (hn : nm.length ≤ 1000000) (hcl : (d.read nm).1 = 0 → endOf (d.read nm).2 = (d.read nm).2.length) :
    Calls Try.prog 12 #[pv p, .string (S nm)] w (OpenP B p w0 nm G (openW nm d) (gsOf (d.read nm).2) w) := by
  have hB1 := (Below.refl w.heap.size w).alloc (Nat.le_refl _) (.cells #[pv p, .string (S nm), .int .i64 0, .bool false] 64)
  have hd1 := h.below hB1
  have hl1 : Lg (w.alloc (.cells #[pv p, .string (S nm), .int .i64 0, .bool false] 64)) w.heap.size p nm 0 false := alloc_new w _
  have hf1 : ¬ G.has w.heap.size := fun hh => by have := (h.at_.has_lt hh).2; omega
  have hlo : B ≤ w.heap.size := by have := h.at_.lo.1; have := h.at_.p_lt; omega
  have hs1 : (w.alloc (.cells #[pv p, .string (S nm), .int .i64 0, .bool false] 64)).heap.size = w.heap.size + 1 := by simp
  have HLS : Hid (Ls B p w.heap.size w0 G d nm 0 false (w.alloc (.cells #[pv p, .string (S nm), .int .i64 0, .bool false] 64))) := Lib.hid ⟨hd1, hl1, hf1, hlo⟩
  have HT1 := Lib.hid (Tr.of_below hB1 G)
  have KR := Lib.hid (k_read hd1 nm hn)
  obtain ⟨hby, hbl⟩ := read_by h nm
  obtain ⟨⟨er, bs⟩, hrd⟩ : ∃ r, d.read nm = r := ⟨_, rfl⟩
  have HRD := Lib.hid hrd
  rw [hrd] at KR hcl hby hbl
  dsimp only at KR hcl hby hbl
  obtain ⟨r, hr⟩ : ∃ r, openW nm d = r := ⟨_, rfl⟩
  have HOW : Hid (r = if er = 200 then freshW nm d else if er ≠ 0 then (er, d) else keepsW nm d) := Lib.hid (by rw [← hr]; unfold openW; rw [hrd])
  rw [hr, hrd]
  dsimp only
  have KGR := Lib.hid (fun v W (ho : OwnB W (w.alloc (.cells #[pv p, .string (S nm), .int .i64 0, .bool false] 64)).heap.size v bs) => wal_groups v bs W ho.rd hby (by omega))
  have HCL := Lib.hid hcl
  obtain ⟨gs, hgs⟩ : ∃ gs, gsOf bs = gs := ⟨_, rfl⟩
  have HGS := Lib.hid hgs
  rw [hgs]
  clear hB1 hd1 hl1 hf1 h hrd hr hcl hby hgs
  go_enter Try.func12, Try.ntmps12
  go_wp2_with fail
  refine KR.out.mono ?_
  rintro e w2 ⟨v2, rfl, ho2, hd2, hb2⟩
  obtain ⟨A2, c2, rfl, -, -⟩ := ho2.rd
  have KG := Lib.hid (KGR.out _ _ ho2)
  have HL2 := Lib.hid (HLS.out.below hb2)
  have HT2 := Lib.hid (HT1.out.then_below hb2)
  have hs2 := hb2.size
  clear KR KGR ho2 hd2 hb2 HLS HT1
  go_wp2_with fail
  refine KG.out.mono ?_
  rintro e w3 ⟨v3, rfl, hg3, hb3⟩
  rw [HGS.out] at hg3
  have HL3 := Lib.hid (HL2.out.below hb3)
  have HT3 := Lib.hid (HT2.out.then_below hb3)
  have ha3 := OwnA.new HL2.out.dk.at_ (Nat.le_refl _) hg3
  obtain ⟨A3, c3, rfl⟩ := ha3.sl
  have HA3 := Lib.hid ha3
  have hbase : w.heap.size ≤ w2.heap.size := by omega
  clear KG hg3 hb3 HL2 HT2 ha3
  by_cases h200 : er = 200
  · subst h200
    have KF := Lib.hid (wal_fresh HL3.out.dk hst HL3.out.lg HL3.out.far hn)
    have hor := HOW.out
    rw [if_pos rfl] at hor
    rw [← hor] at KF
    clear hor HOW
    go_wp2_with fail
    refine KF.out.mono ?_
    rintro e w4 ⟨rfl, G4, hd4, ht4⟩
    have HL4 := Lib.hid (HL3.out.tr hd4 ht4)
    have HT4 := Lib.hid (HT3.out.trans ht4)
    have HA4 := Lib.hid (HA3.out.tr ht4)
    skip
    clear hd4 ht4 KF HL3 HT3 HA3
    obtain ⟨er4, d4⟩ := r
    by_cases he : er4 = 0
    · subst he
      have l2 : w4.cell? ⟨w.heap.size, 2, none⟩ = some (.int .i64 0) := cells_blk HL4.out.lg 2 _ rfl
      have z2 : w4.frozen? ⟨w.heap.size, 2, none⟩ = false := by unfold World.frozen?; rw [show w4.heap[w.heap.size]? = _ from HL4.out.lg]; simp
      have HL5 := Lib.hid (HL4.out.groups (gs.length : Int))
      have HT5 := Lib.hid (HT4.out.trans_set (Nat.le_refl _) (gs.length : Int))
      have HA5 := Lib.hid (HA4.out.lt HL4.out.lg (LT.set w4 G4 2 (.int .i64 (gs.length : Int))))
      go_wp2_with fail
      go_ret3
      refine .inl ⟨rfl, _, w.heap.size, G4, rfl, Nat.le_refl _, HL5.out, ?_, HT5.out⟩
      obtain ⟨us, a1, a2, a3, a4⟩ := HA5.out
      exact ⟨us, a1, own_weaken a2 hbase, a3, fun i y g hy hg => ⟨own_weaken (a4 i y g hy hg).1 hbase, (a4 i y g hy hg).2⟩⟩
    · have he' : (er4 == 0) = false := by rw [beq_eq_false_iff_ne]; exact he
      go_wp2_with fail
      go_ret3
      exact .inr ⟨he, rfl, G4, HL4.out.dk, HT4.out⟩
  · have h200' : (er == 200) = false := by rw [beq_eq_false_iff_ne]; exact h200
    by_cases h0 : er = 0
    · subst h0
      have KF := Lib.hid (wal_keeps HL3.out.dk (by omega) HL3.out.lg HL3.out.far hn)
      have hor := HOW.out
      rw [if_neg (by decide), if_neg (by decide)] at hor
      rw [← hor] at KF
      have hcl := HCL.out rfl
      have hcl' : ¬ (endOf bs : Int) < (bs.length : Int) := by omega
      clear hor HOW hcl h200 h200'
      go_wp2_with fail
      refine KF.out.mono ?_
      rintro e w4 ⟨rfl, G4, hd4, ht4⟩
      have HL4 := Lib.hid (HL3.out.tr hd4 ht4)
      have HT4 := Lib.hid (HT3.out.trans ht4)
      have HA4 := Lib.hid (HA3.out.tr ht4)
      skip
      clear hd4 ht4 KF HL3 HT3 HA3
      obtain ⟨er4, d4⟩ := r
      by_cases he : er4 = 0
      · subst he
        have l2 : w4.cell? ⟨w.heap.size, 2, none⟩ = some (.int .i64 0) := cells_blk HL4.out.lg 2 _ rfl
        have z2 : w4.frozen? ⟨w.heap.size, 2, none⟩ = false := by unfold World.frozen?; rw [show w4.heap[w.heap.size]? = _ from HL4.out.lg]; simp
        have HL5 := Lib.hid (HL4.out.groups (gs.length : Int))
        have HT5 := Lib.hid (HT4.out.trans_set (Nat.le_refl _) (gs.length : Int))
        have HA5 := Lib.hid (HA4.out.lt HL4.out.lg (LT.set w4 G4 2 (.int .i64 (gs.length : Int))))
        go_wp2_with fail
        go_ret3
        refine .inl ⟨rfl, _, w.heap.size, G4, rfl, Nat.le_refl _, HL5.out, ?_, HT5.out⟩
        obtain ⟨us, a1, a2, a3, a4⟩ := HA5.out
        exact ⟨us, a1, own_weaken a2 hbase, a3, fun i y g hy hg => ⟨own_weaken (a4 i y g hy hg).1 hbase, (a4 i y g hy hg).2⟩⟩
      · have he' : (er4 == 0) = false := by rw [beq_eq_false_iff_ne]; exact he
        go_wp2_with fail
        go_ret3
        exact .inr ⟨he, rfl, G4, HL4.out.dk, HT4.out⟩
    · have h0' : (er == 0) = false := by rw [beq_eq_false_iff_ne]; exact h0
      have hor := HOW.out
      rw [if_neg h200, if_pos h0] at hor
      subst hor
      go_wp2_with fail
      go_ret3
      exact .inr ⟨h0, rfl, G, HL3.out.dk, HT3.out⟩
end Go.Proofs.Ytmdecbockpgagaa
