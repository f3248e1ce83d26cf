import Derived.Test.YtmdecbockpgagaaDiskCrash
/- What holds of a disk behind a crash. -/
namespace Go.Proofs.Ytmdecbockpgagaa
open Go.RowKit
variable {d : DS}

theorem crashF_len : ∀ (ps : NM) (fs : List Fl) (cs : List Int), (crashF fs ps cs).1.length = fs.length
  | [], _, _ => rfl
  | p :: ps, fs, cs => by
    show (crashF (fs.set p.2 _) ps _).1.length = _
    rw [crashF_len ps, List.length_set]
theorem crashF_bytes : ∀ (ps : NM) (fs : List Fl) (cs : List Int), (∀ f ∈ fs, f.b.length ≤ 400000 ∧ f.kept ≤ f.b.length) → ∀ f ∈ (crashF fs ps cs).1, f.b.length ≤ 400000 ∧ f.kept ≤ f.b.length
  | [], _, _, h => h
  | p :: ps, fs, cs, h => by
    cases hf : fs[p.2]? with
    | none =>
      have h1 : crashF fs (p :: ps) cs = crashF (fs.set p.2 _) ps _ := rfl
      rw [h1, List.set_eq_of_length_le (by have := List.getElem?_eq_none_iff.1 hf; omega)]
      exact crashF_bytes ps _ _ h
    | some f =>
      rw [crashF_step fs p ps cs f hf]
      refine crashF_bytes ps _ _ (fun g hg => ?_)
      rcases List.mem_or_eq_of_mem_set hg with hg | rfl
      · exact h g hg
      · have h0 := h f (List.mem_of_getElem? hf)
        have ha := pick1_le cs (f.b.length - f.kept)
        have hb := pick1_le (pick1 cs (f.b.length - f.kept)).2 (pick1 cs (f.b.length - f.kept)).1
        have hl : (f.b.take (f.kept + (pick1 cs (f.b.length - f.kept)).1)).length = f.kept + (pick1 cs (f.b.length - f.kept)).1 := by rw [List.length_take]; omega
        have h2 := fellB_len f (pick1 cs (f.b.length - f.kept)).1 (pick1 (pick1 cs (f.b.length - f.kept)).2 (pick1 cs (f.b.length - f.kept)).1).1 (by omega)
        dsimp only
        omega
theorem Ok.crash (h : d.Ok) (cs : List Int) : (d.crash cs).Ok := by
  obtain ⟨mk, hmk⟩ := replay_take h.back (pick1 cs d.since.length).1
  have hlen : (crashF d.files mk (pick1 cs d.since.length).2).1.length = d.files.length := crashF_len _ _ _
  have he : d.crash cs = { d with failAt := 0, offAt := 0, names := mk, kept := mk, since := [], files := (crashF d.files mk (pick1 cs d.since.length).2).1 } := by
    unfold DS.crash
    simp only
    rw [hmk]
    rfl
  rw [he]
  have hm : ∀ p ∈ mk, p.2 < (crashF d.files mk (pick1 cs d.since.length).2).1.length := by
    rw [hlen]
    exact replay_lt hmk h.kept (fun c hc => h.since c (List.mem_of_mem_take hc))
  exact { steps := h.steps, failAt := ⟨Int.le_refl _, by show (0 : Int) ≤ 1200000000000; omega⟩, offAt := ⟨Int.le_refl _, by show (0 : Int) ≤ 1200000000000; omega⟩, names := hm, kept := hm, since := fun _ hc => (by cases hc), back := rfl
          many := h.manyAt _ _ hmk, bytes := crashF_bytes _ _ _ h.bytes
          manyAt := fun k m hk => (by
            have h2 : replay mk (([] : List Chg).take k) = some m := hk
            rw [List.take_nil] at h2
            cases h2
            exact h.manyAt _ _ hmk)
          sinceN := by have := h.steps.1; show ((([] : List Chg).length : Int)) ≤ 2 * d.steps; simp; omega
          lengths := fun _ hc => (by cases hc) }
end Go.Proofs.Ytmdecbockpgagaa

/- disk: the contracts for a walk that keeps the disk in one place. -/
namespace Go.Proofs.Ytmdecbockpgagaa
open Go.RowKit Go.Maps Go.Proofs.YtmdecbockpgagaaW.PrintWords Go.Proofs.YtmdecbockpgagaaW.PrintMore

/-- A disk at block p, as it lies in a walk that began at w0. -/
structure Dk (B p : Nat) (w0 : World) (G : DG) (d : DS) (w : World) : Prop where
  at_ : At B G d w
  ok : d.Ok
  gp : G.p = p
  bel : Below B w0 w
variable {B p : Nat} {w0 : World} {G : DG} {d : DS} {w w' : World}
abbrev pv (p : Nat) : Value := .pointer (some ⟨p, 0, none⟩)
theorem Dk.below (h : Dk B p w0 G d w) (hb : Below w.heap.size w w') : Dk B p w0 G d w' :=
  ⟨h.at_.below hb, h.ok, h.gp, h.bel.trans (hb.mono (by have := h.at_.lo.1; have := h.at_.p_lt; omega))⟩
theorem Dk.next {G' : DG} {d' : DS} (h : Dk B p w0 G d w) (ha : At B G' d' w') (ht : Tr w G w' G') (ho : d'.Ok) : Dk B p w0 G' d' w' :=
  ⟨ha, ho, ht.p.trans h.gp, h.bel.trans (ht.below h.at_)⟩
theorem Dk.dp (h : Dk B p w0 G d w) : dp G = pv p := by unfold Go.Proofs.Ytmdecbockpgagaa.dp pv; rw [h.gp]
/-- A row that is no part of the disk. -/
def Apart (G : DG) (v : Value) : Prop := ∀ g, v.ownBlock = some g → ¬ G.has g
theorem Apart.new (h : At B G d w) {base : Nat} {e : TypeId} {size n : Nat} {v : Value} {xs : List Value} (hb : w.heap.size ≤ base) (ho : w'.ownsRow base e size v n xs) : Apart G v := fun g hg hh => by
  have h1 := (h.has_lt hh).2
  have h2 := (World.ownsRow.lt ho g hg).1
  omega
theorem Apart.tr {G' : DG} {base : Nat} {e : TypeId} {size n : Nat} {v : Value} {xs : List Value} (h : Apart G v) (ho : w.ownsRow base e size v n xs) (ht : Tr w G w' G') : Apart G' v ∧ w'.ownsRow base e size v n xs :=
  ⟨fun g hg hh => h g hg (ht.foot g (World.ownsRow.lt ho g hg).2 hh), own_keep ho (fun g hg => ht.block g (World.ownsRow.lt ho g hg).2 (h g hg))⟩
theorem Apart.below_ {v : Value} (h : At B G d w) (hb : ∀ g, v.ownBlock = some g → g < B) : Apart G v := fun g hg hh => by
  have h1 := (h.has_lt hh).1
  have h2 := hb g hg
  omega

/-- A row that is read, apart from a disk. -/
theorem Far.rd {v : Value} {xs : List Int} {G' : DG} (hv : RdB w v xs) (hf : Far G v) (t : Tr w G w' G') : RdB w' v xs ∧ Far G' v := by
  obtain ⟨A, c, rfl, hc, hr⟩ := hv
  refine ⟨⟨A, c, rfl, hc, hr.1, hr.2.1, fun h0 => ?_⟩, fun a n c2 he hh => ?_⟩
  · obtain ⟨ad, rfl, hcell⟩ := hr.2.2 h0
    refine ⟨ad, rfl, fun j hj => ?_⟩
    have h1 := hcell j hj
    have h2 := reads_lt h1
    rw [add_block] at h2
    exact (World.cell?_of_block (by rw [add_block]; exact t.block ad.block h2 (hf ad (xs.length - 1) c (by rw [Nat.sub_add_cancel h0])))).trans h1
  · have he2 := he
    injection he with e1 e2 e3
    obtain ⟨ad, e4, hcell⟩ := hr.2.2 (by omega)
    rw [e1] at e4
    cases e4
    have h2 := reads_lt (hcell 0 (by omega))
    rw [add_block] at h2
    exact hf a n c2 he2 (t.foot _ h2 hh)
theorem Far.nil (G : DG) : Far G (.slice none 0 0) := fun a n c he => by cases he
theorem Far.at_ {b n c : Nat} (h : ¬ G.has b) : Far G (.slice (some ⟨b, 0, none⟩) n c) := fun a m c2 he => by
  injection he with e1 e2 e3
  cases e1
  exact h
theorem Far.own {v : Value} (ha : Apart G v) : Far G v := fun a m c2 he => by
  refine ha a.block ?_
  rw [he]
  rfl
theorem Far.new (h : At B G d w) {n c : Nat} : Far G (.slice (some ⟨w.heap.size, 0, none⟩) n c) := Far.at_ (fun hh => by have := (h.has_lt hh).2; omega)
theorem Far.old {v : Value} {xs : List Int} (h : At w0.heap.size G d w) (hv : RdB w0 v xs) : Far G v := fun a n c2 he hh => by
  obtain ⟨A, c, rfl, hc, hr⟩ := hv
  injection he with e1 e2 e3
  obtain ⟨ad, e4, hcell⟩ := hr.2.2 (by omega)
  rw [e1] at e4
  cases e4
  have h2 := reads_lt (hcell 0 (by omega))
  rw [add_block] at h2
  have := (h.has_lt hh).1
  omega

theorem Dk.grown {base : Nat} {e : TypeId} {size n : Nat} {v : Value} {xs : List Value} (h : Dk B p w0 G d w) (ho : w.ownsRow base e size v n xs) (hb : B ≤ base) (hg : w.grownBy w' v.ownBlock) (ha : Apart G v) : Dk B p w0 G d w' := by
  have hk : ∀ k, G.has k → w'.heap[k]? = w.heap[k]? := fun k hk => hg.block k (h.at_.has_lt hk).2 (fun e => ha k e.symm hk)
  refine ⟨h.at_.keep hk, h.ok, h.gp, h.bel.trans ⟨hg.os, hg.tape, hg.output, hg.size, fun k hk => hg.block k ?_ (fun e => ?_)⟩⟩
  · have := h.at_.lo.1
    have := h.at_.p_lt
    omega
  · have := (World.ownsRow.lt ho k e.symm).1
    omega
theorem Apart.grown {v v' : Value} (h : At B G d w) (ha : Apart G v) (hat : v'.ownBlock = v.ownBlock ∨ ∃ b, v'.ownBlock = some b ∧ w.heap.size ≤ b) : Apart G v' := fun g hg hh => by
  rcases hat with e | ⟨b, e, hb⟩
  · exact ha g (e ▸ hg) hh
  · rw [hg] at e
    cases e
    have := (h.has_lt hh).2
    omega
theorem RdB.reads {w : World} {A : Option Addr} {n c : Nat} {xs : List Int} (h : RdB w (.slice A n c) xs) : ReadsInt w .u8 A xs.length xs := by
  obtain ⟨A', c', he, _, hr⟩ := h
  injection he with e1 e2 e3
  subst e1
  exact hr
theorem Apart.nil (G : DG) : Apart G (.slice none 0 0) := fun g hg => by cases hg

theorem k_new (w : World) (q : Int) : Calls Try.prog 11 #[.int .i64 q] w fun e w' => ∃ p G, e = .returned (pv p) ∧ w.heap.size ≤ p ∧ Dk w.heap.size p w G (newD q) w' := by
  refine (disk_new w q).mono ?_
  rintro e w' ⟨rfl, ha, hb⟩
  refine ⟨(newG w.heap.size).p, newG w.heap.size, rfl, ha.lo.1, ha, ?_, rfl, hb⟩
  exact { steps := ⟨Int.le_refl _, by show (0 : Int) ≤ 1000000000; omega⟩, failAt := ⟨Int.le_refl _, by show (0 : Int) ≤ 1200000000000; omega⟩, offAt := ⟨Int.le_refl _, by show (0 : Int) ≤ 1200000000000; omega⟩, names := fun _ hp => (by cases hp), kept := fun _ hp => (by cases hp), since := fun _ hc => (by cases hc), back := rfl, many := Nat.zero_le _, bytes := fun _ hf => (by cases hf)
          manyAt := fun k m hm => (by
            have h2 : replay [] (([] : List Chg).take k) = some m := hm
            rw [List.take_nil] at h2
            cases h2
            exact Nat.zero_le _)
          sinceN := by show ((([] : List Chg).length : Int)) ≤ 2 * 0; simp
          lengths := fun _ hc => (by cases hc) }
theorem k_create (h : Dk B p w0 G d w) (hst : d.steps < 1000000000) (s : List UInt8) (hs : s.length ≤ 1000000) :
    Calls Try.prog 20 #[pv p, .string (S s)] w fun e w' => e = .returned (.int .i64 (d.create s).1) ∧ ∃ G', Dk B p w0 G' (d.create s).2 w' ∧ Tr w G w' G' := by
  rw [← h.dp]
  refine (disk_create h.at_ h.ok hst s hs).mono ?_
  rintro e w' ⟨rfl, G', ha, ht⟩
  exact ⟨rfl, G', h.next ha ht (Ok.create h.ok hst s), ht⟩
theorem k_append (h : Dk B p w0 G d w) (hst : d.steps < 1000000000) (s : List UInt8) (hs : s.length ≤ 1000000) (xs : List Int) (hxs : By xs) (v : Value) (hv : RdB w v xs) (hf : Far G v) (hq : -9223372036854775808 ≤ d.quota ∧ d.quota < 9223372036854775808) :
    Calls Try.prog 21 #[pv p, .string (S s), v] w fun e w' => e = .returned (.int .i64 (d.append s xs).1) ∧ ∃ G', Dk B p w0 G' (d.append s xs).2 w' ∧ Tr w G w' G' := by
  rw [← h.dp]
  refine (disk_append h.at_ h.ok hst s hs xs hxs v (fun w' t => (Far.rd hv hf t).1) hq.1 hq.2).mono ?_
  rintro e w' ⟨rfl, G', ha, ht⟩
  exact ⟨rfl, G', h.next ha ht (Ok.append h.ok hst s xs), ht⟩
theorem k_sync (h : Dk B p w0 G d w) (hst : d.steps < 1000000000) (s : List UInt8) (hs : s.length ≤ 1000000) :
    Calls Try.prog 22 #[pv p, .string (S s)] w fun e w' => e = .returned (.int .i64 (d.sync s).1) ∧ ∃ G', Dk B p w0 G' (d.sync s).2 w' ∧ Tr w G w' G' := by
  rw [← h.dp]
  refine (disk_sync h.at_ h.ok hst s hs).mono ?_
  rintro e w' ⟨rfl, G', ha, ht⟩
  exact ⟨rfl, G', h.next ha ht (Ok.sync h.ok hst s), ht⟩
theorem k_remove (h : Dk B p w0 G d w) (hst : d.steps < 1000000000) (s : List UInt8) (hs : s.length ≤ 1000000) :
    Calls Try.prog 60 #[pv p, .string (S s)] w fun e w' => e = .returned (.int .i64 (d.remove s).1) ∧ ∃ G', Dk B p w0 G' (d.remove s).2 w' ∧ Tr w G w' G' := by
  rw [← h.dp]
  refine (disk_remove h.at_ h.ok hst s hs).mono ?_
  rintro e w' ⟨rfl, G', ha, ht⟩
  exact ⟨rfl, G', h.next ha ht (Ok.remove h.ok hst s), ht⟩
theorem k_rename (h : Dk B p w0 G d w) (hst : d.steps < 1000000000) (s t : List UInt8) (hs : s.length ≤ 1000000) (ht : t.length ≤ 1000000) :
    Calls Try.prog 59 #[pv p, .string (S s), .string (S t)] w fun e w' => e = .returned (.int .i64 (d.rename s t).1) ∧ ∃ G', Dk B p w0 G' (d.rename s t).2 w' ∧ Tr w G w' G' := by
  rw [← h.dp]
  refine (disk_rename h.at_ h.ok hst s t hs ht).mono ?_
  rintro e w' ⟨rfl, G', ha, ht⟩
  exact ⟨rfl, G', h.next ha ht (Ok.rename h.ok hst s t), ht⟩
theorem k_syncDir (h : Dk B p w0 G d w) (hst : d.steps < 1000000000) :
    Calls Try.prog 23 #[pv p] w fun e w' => e = .returned (.int .i64 (d.syncDir).1) ∧ ∃ G', Dk B p w0 G' (d.syncDir).2 w' ∧ Tr w G w' G' := by
  rw [← h.dp]
  refine (disk_syncDir h.at_ h.ok hst).mono ?_
  rintro e w' ⟨rfl, G', ha, ht⟩
  exact ⟨rfl, G', h.next ha ht (Ok.syncDir h.ok hst), ht⟩
theorem k_crash (h : Dk B p w0 G d w) (v : Value) (cs : List Int) (hv : RdB w v cs) (hby : By cs) (hf : Far G v) :
    Calls Try.prog 17 #[pv p, v] w fun e w' => (∃ u, e = .returned u) ∧ ∃ G', Dk B p w0 G' (d.crash cs) w' ∧ Tr w G w' G' := by
  rw [← h.dp]
  refine (disk_crash h.at_ h.ok v cs hv hby hf).mono ?_
  rintro e w' ⟨hu, G', ha, ht⟩
  exact ⟨hu, G', h.next ha ht (Ok.crash h.ok cs), ht⟩
theorem k_fail (h : Dk B p w0 G d w) (a : Int) (ha : -9223372036854775808 ≤ a ∧ a < 9223372036854775808) :
    Calls Try.prog 27 #[pv p, .int .i64 a] w fun e w' => (∃ u, e = .returned u) ∧ Dk B p w0 G (d.fail a) w' ∧ Tr w G w' G := by
  rw [← h.dp]
  refine (disk_fail h.at_ h.ok a ha.1 ha.2).mono ?_
  rintro e w' ⟨hu, ha, ht⟩
  exact ⟨hu, h.next ha ht (Ok.fail h.ok a), ht⟩
theorem k_power (h : Dk B p w0 G d w) (a : Int) (ha : -9223372036854775808 ≤ a ∧ a < 9223372036854775808) :
    Calls Try.prog 28 #[pv p, .int .i64 a] w fun e w' => (∃ u, e = .returned u) ∧ Dk B p w0 G (d.power a) w' ∧ Tr w G w' G := by
  rw [← h.dp]
  refine (disk_power h.at_ h.ok a ha.1 ha.2).mono ?_
  rintro e w' ⟨hu, ha, ht⟩
  exact ⟨hu, h.next ha ht (Ok.power h.ok a), ht⟩
theorem k_read (h : Dk B p w0 G d w) (s : List UInt8) (hs : s.length ≤ 1000000) :
    Calls Try.prog 30 #[pv p, .string (S s)] w fun e w' => ∃ v, e = .returned (.tuple #[v, .int .i64 (d.read s).1]) ∧ OwnB w' w.heap.size v (d.read s).2 ∧ Dk B p w0 G d w' ∧ Below w.heap.size w w' := by
  rw [← h.dp]
  refine (disk_read h.at_ h.ok s hs).mono ?_
  rintro e w' ⟨⟨v, rfl, ho⟩, hb⟩
  exact ⟨v, rfl, ho, h.below hb, hb⟩
/-- What turned is told by the counts. -/
theorem changes_steps (d : DS) (c : Chg) : (d.changes c).steps = d.steps := rfl
theorem create_steps (d : DS) (s : Nm) : (d.create s).2.steps = d.steps + 1 := by
  unfold DS.create
  simp only
  split
  · rfl
  · split <;> rfl
theorem append_steps (d : DS) (s : Nm) (b : List Int) : (d.append s b).2.steps = d.steps + 1 := by
  unfold DS.append
  simp only
  split
  · rfl
  · split <;> rfl
theorem append_quota (d : DS) (s : Nm) (b : List Int) : (d.append s b).2.quota = d.quota := by
  unfold DS.append
  simp only
  split
  · rfl
  · split <;> rfl
end Go.Proofs.Ytmdecbockpgagaa
