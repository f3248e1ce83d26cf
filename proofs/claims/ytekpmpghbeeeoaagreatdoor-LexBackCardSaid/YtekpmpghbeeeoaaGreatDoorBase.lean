import Derived.Test.YtekpmpghbeeeoaaGreatDoorProg
import Derived.WalkKit
import Derived.WalkSpells
import Derived.WalkLawsBesides
import Derived.Laws.BitsLemmas
import Derived.Lib.Hide
import Derived.Lib.SlBytesConst
import Derived.Test.YtekpmpghbeeeoaaGreatDoorWWords
import Derived.Test.YtekpmpghbeeeoaaGreatDoorWMore
/- Words for byte rows: what a slice of bytes reads as, what is owned, what an append leaves. -/
namespace Go.Proofs.YtekpmpghbeeeoaaGreatDoor
open Go.RowKit Go.Proofs.YtekpmpghbeeeoaaGreatDoorW.PrintWords Go.Proofs.YtekpmpghbeeeoaaGreatDoorW

theorem info8 : (Tryz.prog.info? 5).map (fun i => (i.zero, i.size, i.bytes)) = some (some (.int .u8 0), 1, 1) := by kernel_rfl

/-- A row of bytes of the call's own. -/
def OwnB (w : World) (base : Nat) (v : Value) (xs : List Int) : Prop := w.ownsRow base 5 1 v xs.length (nums .u8 xs)

/-- A row of bytes that is read. -/
def RdB (w : World) (v : Value) (xs : List Int) : Prop := ∃ A c, v = .slice A xs.length c ∧ xs.length ≤ c ∧ ReadsInt w .u8 A xs.length xs

def By (xs : List Int) : Prop := ∀ x ∈ xs, 0 ≤ x ∧ x < 256

/-- Where an appended row lies: in the old row's block, or in a new one. -/
def NewAt (w : World) (v v' : Value) : Prop := v'.ownBlock = v.ownBlock ∨ ∃ b, v'.ownBlock = some b ∧ w.heap.size ≤ b

/-- What an append onto a row leaves. -/
def AppB (w : World) (base : Nat) (v : Value) (ys : List Int) (e : Ending) (w' : World) : Prop :=
  ∃ v', e = .returned v' ∧ OwnB w' base v' ys ∧ w.grownBy w' v.ownBlock ∧ NewAt w v v'

theorem NewAt.refl (w : World) (v : Value) : NewAt w v v := .inl rfl
theorem NewAt.chain {w w1 : World} {v u u1 : Value} (h : NewAt w v u) (hs : w.heap.size ≤ w1.heap.size) (h1 : NewAt w1 u u1) : NewAt w v u1 := by
  rcases h1 with h1 | ⟨b, hb, hl⟩
  · rcases h with h | ⟨b, hb, hl⟩
    · exact .inl (h1.trans h)
    · exact .inr ⟨b, h1.trans hb, hl⟩
  · exact .inr ⟨b, hb, Nat.le_trans hs hl⟩
theorem grown_chain {w w1 w2 : World} {v u : Value} (h : w.grownBy w1 v.ownBlock) (hn : NewAt w v u) (h2 : w1.grownBy w2 u.ownBlock) : w.grownBy w2 v.ownBlock :=
  ⟨h2.os.trans h.os, h2.tape.trans h.tape, h2.output.trans h.output, Nat.le_trans h.size h2.size, fun k hk hne => by
    refine (h2.block k (Nat.lt_of_lt_of_le hk h.size) ?_).trans (h.block k hk hne)
    rcases hn with hn | ⟨b, hb, hl⟩
    · rw [hn]; exact hne
    · rw [hb]; intro e; cases e; omega⟩
theorem grown_below {w w1 w2 : World} {row : Option Nat} (h : w.grownBy w1 row) (hb : Below w1.heap.size w1 w2) : w.grownBy w2 row :=
  ⟨hb.os.trans h.os, hb.tape.trans h.tape, hb.output.trans h.output, Nat.le_trans h.size hb.size, fun k hk hne => (hb.block k (Nat.lt_of_lt_of_le hk h.size)).trans (h.block k hk hne)⟩
theorem below_grown0 {w w1 w2 : World} {row : Option Nat} (h : Below w.heap.size w w1) (hg : w1.grownBy w2 row) : w.grownBy w2 row :=
  ⟨hg.os.trans h.os, hg.tape.trans h.tape, hg.output.trans h.output, Nat.le_trans h.size hg.size, fun k hk hne => (hg.block k (Nat.lt_of_lt_of_le hk h.size) hne).trans (h.block k hk)⟩
theorem below_of_grown {w w1 : World} (h : w.grownBy w1 none) : Below w.heap.size w w1 := ⟨h.os, h.tape, h.output, h.size, fun k hk => h.block k hk (by simp)⟩
theorem below_of_own {w w1 : World} {base : Nat} {v : Value} {xs : List Int} (h : w.grownBy w1 v.ownBlock) (ho : OwnB w base v xs) (hb : base ≤ w.heap.size) : Below base w w1 :=
  (Below.refl _ _).grown h hb (own_base ho)
theorem OwnB.below {w w1 : World} {base : Nat} {v : Value} {xs : List Int} (h : OwnB w base v xs) (hb : Below w.heap.size w w1) : OwnB w1 base v xs := pw_own_below h hb
theorem OwnB.nil (w : World) (base : Nat) : OwnB w base (.slice none 0 0) [] := own_nil w base _ 1
theorem OwnB.lower {w : World} {base base' : Nat} {v : Value} {xs : List Int} (h : OwnB w base v xs) (hb : base' ≤ base) : OwnB w base' v xs := own_weaken h hb

theorem own_litB (W : World) (base : Nat) (xs : List Int) (hb : base ≤ W.heap.size) (hm : xs.length ≤ 9223372036854775807) :
    OwnB (W.alloc (.cells (nums .u8 xs).toArray 5)) base (.slice (some ⟨W.heap.size, 0, none⟩) xs.length xs.length) xs := own_lit W base _ .u8 xs hb hm
instance (xs : List Int) : Decidable (By xs) := inferInstanceAs (Decidable (∀ x ∈ xs, 0 ≤ x ∧ x < 256))
theorem conv_bytes_string {P : Program} {w : World} {A : Option Addr} {ys : List Int} (src e dst : TypeId) (hs : P.underlying src = some (.slice e)) (he : P.underlying e = some (.int .u8)) (hd : P.underlying dst = some .string)
    (hr : ReadsInt w .u8 A ys.length ys) (c : Nat) : (convert src dst (.slice A ys.length c)).run P w = .ok (.string (strOfNums ys)) w := by
  rcases A with _ | ad
  · have h0 : ys = [] := by
      rcases Nat.eq_zero_or_pos ys.length with h0 | h0
      · exact List.eq_nil_of_length_eq_zero h0
      · obtain ⟨ad, h, _⟩ := hr.2.2 h0
        cases h
    subst h0
    exact run_convert_bytes_nil _ src e hs he 0 c dst hd
  · have hl : (loadCells ad ys.length).run P w = .ok (ys.map (Value.int .u8)).toArray w := by
      have h := run_loadCells_list (P := P) w ad (ys.map (Value.int .u8)) (fun j v hj => by
        have hjl : j < ys.length := by
          rcases Nat.lt_or_ge j ys.length with h | h
          · exact h
          · simp [List.getElem?_eq_none h] at hj
        obtain ⟨ad', e, hc⟩ := hr.2.2 (by omega)
        cases e
        rw [hc j hjl]
        simp [List.getElem?_eq_getElem hjl] at hj
        subst hj
        simp [List.getElem?_eq_getElem hjl])
      simpa using h
    rw [run_convert_bytes_string w src dst e _ _ c hs he hd, run_bytesToString w ad _ c ys hl, foldl_push_bytes]
    simp [strOfNums, ByteArray.empty, ByteArray.emptyWithCapacity]
    rfl
theorem conv_const (w : World) (C : Array Value) (n c : Nat) :
    (convert 39 39 (.slice (some ⟨w.heap.size, 0, none⟩) n c)).run Tryz.prog (w.alloc (.cells C 5)) = .ok (.slice (some ⟨w.heap.size, 0, none⟩) n c) (w.alloc (.cells C 5 (C.size, C.size + 1))) :=
  Lib.run_convert_bytes_const (P := Tryz.prog) w 39 5 C n c Tryz.underlying39 Tryz.underlying5
theorem conv_const2 (w : World) (o : Obj) (C : Array Value) (n c : Nat) :
    (convert 39 39 (.slice (some ⟨w.heap.size + 1, 0, none⟩) n c)).run Tryz.prog ((w.alloc o).alloc (.cells C 5)) = .ok (.slice (some ⟨w.heap.size + 1, 0, none⟩) n c) ((w.alloc o).alloc (.cells C 5 (C.size, C.size + 1))) := by
  have h := conv_const (w.alloc o) C n c
  rwa [World.size_alloc] at h
theorem rd_lit (W : World) (xs : List Int) (fz : Nat × Nat) (hm : xs.length ≤ 9223372036854775807) :
    RdB (W.alloc (.cells (nums .u8 xs).toArray 5 fz)) (.slice (some ⟨W.heap.size, 0, none⟩) xs.length xs.length) xs := by
  refine ⟨_, _, rfl, Nat.le_refl _, rfl, hm, fun _ => ⟨_, rfl, fun j hj => ?_⟩⟩
  rw [add_plain, cell_of_row _ W.heap.size j _ 5 fz (heap_alloc_new W _)]
  simp [nums, List.getElem?_eq_getElem hj]
theorem rd_lit2 (W : World) (o : Obj) (xs : List Int) (fz : Nat × Nat) (hm : xs.length ≤ 9223372036854775807) :
    RdB ((W.alloc o).alloc (.cells (nums .u8 xs).toArray 5 fz)) (.slice (some ⟨W.heap.size + 1, 0, none⟩) xs.length xs.length) xs := by
  have h := rd_lit (W.alloc o) xs fz hm
  rwa [World.size_alloc] at h
theorem str_eq {xs ys : List Int} (hx : By xs) (hy : By ys) : strOfNums xs = strOfNums ys ↔ xs = ys := by
  constructor
  · intro h
    have h1 := congrArg (fun s : ByteArray => s.data.toList) h
    simp only [strOfNums_data] at h1
    have h2 := congrArg (List.map fun b : UInt8 => (b.toNat : Int)) h1
    simp only [List.map_map] at h2
    have key : ∀ zs : List Int, By zs → zs.map ((fun b : UInt8 => (b.toNat : Int)) ∘ fun n => UInt8.ofNat n.toNat) = zs := by
      intro zs hz
      conv => rhs; rw [← List.map_id zs]
      apply List.map_congr_left
      intro z hzm
      have := hz z hzm
      simp only [Function.comp, UInt8.toNat_ofNat', id]
      omega
    rw [key xs hx, key ys hy] at h2
    exact h2
  · intro h; rw [h]
theorem bytesOf_strOfNums {xs : List Int} (hx : By xs) : bytesOf (strOfNums xs) = xs := by
  simp only [bytesOf, strOfNums_data, List.map_map]
  conv => rhs; rw [← List.map_id xs]
  apply List.map_congr_left
  intro z hzm
  have := hx z hzm
  simp only [Function.comp, UInt8.toNat_ofNat', id]
  omega
theorem strOfNums_bytesOf (s : ByteArray) : strOfNums (bytesOf s) = s := by
  apply ByteArray.ext
  apply Array.ext'
  simp only [strOfNums, bytesOf, List.map_map]
  conv => rhs; rw [← List.map_id s.data.toList]
  apply List.map_congr_left
  intro b _
  simp

/-- append(v, s...), s a string, and where the new row lies. -/
theorem append_str_at {P : Program} {ops : Array Oper} {rest : List Oper} {o : Oper} {a : Act} {Q : Exit → Act → World → Prop} {W : World} (base : Nat) (hgd : o.guard = none) (s x : Operand) (t u e : TypeId)
    (ho : o.op = .call { callee := .builtin .append, args := #[s, x], argTypes := #[t, u] })
    (ht : P.underlying t = some (.slice e)) (hu : P.underlying u = some .string) (hinfo : (P.info? e).map (fun i => (i.zero, i.size, i.bytes)) = some (some (.int .u8 0), 1, 1))
    (v : Value) (xs : List Int) (y : ByteArray) (hs : a.eval s = v) (hx : a.eval x = .string y)
    (HO : W.ownsRow base e 1 v xs.length (nums .u8 xs)) (hbase : base ≤ W.heap.size) (hl : xs.length + y.size ≤ 140737488355328)
    (h : ∀ v1 w1, w1.ownsRow base e 1 v1 (xs ++ bytesOf y).length (nums .u8 (xs ++ bytesOf y)) → W.grownBy w1 v.ownBlock → NewAt W v v1 → wpList P ops Q rest (a.put o.dst v1) w1) :
    wpList P ops Q (o :: rest) a W := by
  obtain ⟨i, hi, hzz⟩ := Option.map_eq_some_iff.1 hinfo
  simp only [Prod.mk.injEq] at hzz
  obtain ⟨hz, hsize, hby⟩ := hzz
  refine wpList_plain hgd fun K hK => ?_
  obtain ⟨v', w', hr, h2, h3, h4⟩ := Lib.run_append_own_string (P := P) W base t u o.type e i ht hu hi hz hsize hby v xs.length (nums .u8 xs) HO y (by simp only [maxLen]; omega) hl hbase
  have hat : NewAt W v v' := by
    rcases HO.2 with ⟨rfl, _⟩ | ⟨g, cap, cur, rfl, hbg, hg, hnc, hcm, hcs, htake⟩
    · by_cases hm : y.size = 0
      · exact .inl (by rw [h4.2 ⟨rfl, hm⟩])
      · have hr2 := run_append_nil_string (P := P) W t u o.type e i (.int .u8 0) ht hu hi hz y (by omega) (by omega) (by rw [hby]; omega)
        rw [hr2] at hr
        injection hr with hr _
        subst hr
        exact .inr ⟨_, rfl, Nat.le_refl _⟩
    · by_cases hroom : xs.length + y.size ≤ cap
      · have hroomc : xs.length + y.size ≤ cur.size := by rw [hcs]; omega
        have hr2 := Lib.run_append_room_string (P := P) W t u o.type e i ht hu hi hsize g xs.length cap cur hg y hroom hroomc
        rw [hr2] at hr
        injection hr with hr _
        subst hr
        exact .inl rfl
      · have holds : ∀ j u, (nums .u8 xs)[j]? = some u → W.cell? ((⟨g, 0, none⟩ : Addr).add j) = some u := HO.cells (g := g) rfl
        have hr2 := Lib.run_append_grow_string (P := P) W t u o.type e i (.int .u8 0) ht hu hi hz ⟨g, 0, none⟩ xs.length cap (nums .u8 xs) (by rw [hsize]; simp [nums]) holds y (by omega) (by omega) (by rw [hby]; exact growslice_fits (by omega) (by omega))
        rw [hr2] at hr
        injection hr with hr _
        subst hr
        exact .inr ⟨_, rfl, Nat.le_refl _⟩
  have hl2 : (xs ++ bytesOf y).length = xs.length + y.size := by rw [List.length_append, bytesOf_length]
  have hc : nums .u8 (xs ++ bytesOf y) = nums .u8 xs ++ Lib.strCells y := by
    rw [nums_append]
    congr 1
    simp [nums, bytesOf, Lib.strCells]
  unfold Oper.wp execOp
  simp only [ho, resolve, invoke, builtin, Sem.run_bind, Sem.run_pure, Result.andThen_ok, List.map_toArray, List.map_cons, List.map_nil, hs, hx, hr]
  exact hK _ _ (h v' w' (by rw [hl2, hc]; exact h2) h3 hat)

theorem OwnB.rd {w : World} {base : Nat} {v : Value} {xs : List Int} (h : OwnB w base v xs) : RdB w v xs := by
  obtain ⟨A, c, rfl, hr⟩ := own_reads h
  exact ⟨A, c, rfl, own_le h, hr⟩

theorem RdB.below {w w1 : World} {v : Value} {xs : List Int} (h : RdB w v xs) (hb : Below w.heap.size w w1) : RdB w1 v xs := by
  obtain ⟨A, c, rfl, hc, hr⟩ := h
  exact ⟨A, c, rfl, hc, hr.below hb⟩

theorem By.at_ {xs : List Int} (h : By xs) {k : Nat} (hk : k < xs.length) : 0 ≤ xs.getD k 0 ∧ xs.getD k 0 < 256 := by
  rw [List.getD_eq_getElem?_getD, List.getElem?_eq_getElem hk]; exact h _ (List.getElem_mem hk)

theorem bytesOf_by (s : ByteArray) : By (bytesOf s) := by
  intro x hx
  simp only [bytesOf, List.mem_map] at hx
  obtain ⟨b, _, rfl⟩ := hx
  have := b.toNat_lt
  omega

theorem take_snoc_getD {xs : List Int} {k : Nat} (h : k < xs.length) : xs.take (k + 1) = xs.take k ++ [xs.getD k 0] := by
  rw [List.take_succ_eq_append_getElem h, List.getD_eq_getElem?_getD, List.getElem?_eq_getElem h]; rfl

theorem min_is {k k' : IntKind} {x y r : Int} (h : (if y < x then y else x) = r) (ats : Array TypeId) (ty : TypeId) : Builtin.min_ ats ty #[.int k x, .int k' y] = pure (.int k r) := by
  rw [PrintMore.min_two, PrintMore.min2_int, h]; rfl
theorem max_is {k k' : IntKind} {x y r : Int} (h : (if x < y then y else x) = r) (ats : Array TypeId) (ty : TypeId) : Builtin.max_ ats ty #[.int k x, .int k' y] = pure (.int k r) := by
  rw [PrintMore.max_two, PrintMore.max2_int, h]; rfl
theorem ret_u32 {a b : Int} (h : a = b) : Ending.returned (.int .u32 a) = .returned (.int .u32 b) := by rw [h]
theorem ret_i64 {a b : Int} (h : a = b) : Ending.returned (.int .i64 a) = .returned (.int .i64 b) := by rw [h]
theorem val_i64 {a b : Int} (h : a = b) : Value.int .i64 a = .int .i64 b := by rw [h]
theorem val_u32 {a b : Int} (h : a = b) : Value.int .u32 a = .int .u32 b := by rw [h]
theorem val_u64 {a b : Int} (h : a = b) : Value.int .u64 a = .int .u64 b := by rw [h]
end Go.Proofs.YtekpmpghbeeeoaaGreatDoor
