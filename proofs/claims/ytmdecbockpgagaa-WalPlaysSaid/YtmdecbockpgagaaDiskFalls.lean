import Derived.Test.YtmdecbockpgagaaDiskCalls
import Derived.Test.YtmdecbockpgagaaIter
import Derived.Sort.BigQuietIn
import Derived.Maps.OwnIn
import Derived.Lib.SliceRun
import Derived.Laws.Runes
import Derived.Deep.RegionHeld3
/- disk: all, an iterator over the names in their order. -/
namespace Go.Proofs.Ytmdecbockpgagaa
open Go.RowKit Go.Maps Go.Shelf Go.Proofs.YtmdecbockpgagaaW.PrintWords Go.Proofs.YtmdecbockpgagaaW.PrintMore

attribute [local go_sem] Oper.semAt_some

theorem SM.key_le {w : World} {b : Nat} {m : NM} (h : SM w b m) : ∀ p ∈ m, p.1.length ≤ maxLen := by
  obtain ⟨es, he, hk⟩ := World.ownsMap.keysOf h
  intro p hp
  unfold toD at he
  injection he with he
  obtain ⟨v, hv⟩ := hk (Lit.string p.1, DataW.lit (Lit.int .i64 (p.2 : Int))) (by rw [← he]; exact List.mem_map.2 ⟨p, hp, rfl⟩)
  obtain ⟨x, -, hx, hl⟩ := Maps.keyOf_str Try.underlying9 hv
  injection hx with hx
  rw [hx]
  exact hl
theorem SM.look' {w : World} {b : Nat} {m : NM} (h : SM w b m) (s : List UInt8) (hs : s.length ≤ maxLen) :
    (Instr.lookup TM (.map (some b)) (.string (S s)) false).run Try.prog w = .ok (vOf (mlk m s)) w := by
  have hkey : keyOf Try.prog 9 (.string (S s)) = some (.string s) := WideMaps.keyOf_string_mk Try.underlying9 (by rw [S_size]; exact hs)
  obtain ⟨v, ps, hrun, hv⟩ := World.ownsMap.lookup h KS Try.underlying59 (z := .pointer none) (Try.zeroValue71 w) (zd := .lit (.int .i64 (-1))) (zp := []) rfl hkey
  obtain ⟨o, rfl, ho⟩ := ptrR_inv hv
  rw [hrun]
  have : o = mlk m s := by
    refine vOf_inv (ho.symm.trans ?_)
    show (toD m).atKey (.string s) _ = _
    rw [toD_at]
    cases mlk m s <;> rfl
  rw [this]
theorem mlk_of_mem {m : NM} (h : m.Pairwise fun p q => p.1 ≠ q.1) {p : Nm × Nat} (hp : p ∈ m) : mlk m p.1 = some p.2 := by
  induction m with
  | nil => cases hp
  | cons q r ih =>
    rw [List.pairwise_cons] at h
    unfold mlk
    rcases List.mem_cons.1 hp with rfl | hp
    · rw [List.find?_cons_of_pos (by simp)]
      rfl
    · rw [List.find?_cons_of_neg (by
        have := h.1 p hp
        simpa using this)]
      exact ih h.2 hp
theorem lib_sorted' (b : Nat) (m : NM) (w : World) (h : SM w b m) (hl : m.length ≤ 1000000) :
    Calls Try.prog 64 #[.func (.func 79) #[] #[.pointer (some ⟨w.heap.size, 0, none⟩)]] (w.alloc (.cells #[.map (some b)] TM)) fun e w' =>
      ∃ v, e = .returned v ∧ OwnS w' (w.heap.size + 1) v (m.map (·.1)) ∧ Below w.heap.size w w' := by
  have hs := toD_size m
  refine (callsIn_wide.1 (lib_sorted b m.length (toD m) ptrR w h (by rw [hs]; unfold maxLen; omega) (by rw [hs]; omega))).mono ?_
  rintro e w' ⟨v, ss, rfl, hp, ho, -, hb⟩
  have hk := h.keys hp
  have hsz : (w.alloc (.cells #[.map (some b)] TM)).heap.size = w.heap.size + 1 := by simp
  have hlen : ss.length = (m.map (·.1)).length := by rw [← hk, List.length_mergeSort]
  rw [hk, hlen, hsz] at ho
  refine ⟨v, rfl, ho, ?_⟩
  exact ((Below.refl _ w).alloc (Nat.le_refl _) _).trans (hb.mono (by rw [hsz]; omega))
theorem lib_keys' (mb : Option Nat) (W : World) : Calls Try.prog 65 #[.map mb] W fun e w' => e = .returned (.func (.func 79) #[] #[.pointer (some ⟨W.heap.size, 0, none⟩)]) ∧ w' = W.alloc (.cells #[.map mb] TM) :=
  callsIn_wide.1 (lib_keys mb W)

theorem all_in (n : Nat) (p : Nat) (w : World) :
    CallsIn Fence.wide n Try.prog 41 #[.pointer (some ⟨p, 0, none⟩)] w fun e w' => e = .returned (.func (.func 63) #[] #[.pointer (some ⟨w.heap.size, 0, none⟩)]) ∧ w' = w.alloc (.cells #[.pointer (some ⟨p, 0, none⟩)] 24) := by
  refine callsIn_of_wp Try.func41 rfl trivial ?_ rfl
  simp only [Try.ntmps41, List.size_toArray, List.length_cons, List.length_nil, Nat.reduceAdd, Nat.reduceSub, Array.replicate_succ, Array.replicate_zero, List.push_toArray, List.append_toArray, List.nil_append, List.cons_append]
  gi_wp2
  go_ret
  exact ⟨rfl, rfl⟩

theorem own_rd_len {w : World} {base : Nat} {v : Value} {ss : List (List UInt8)} (h : OwnS w base v ss) : ∃ A cap, v = .slice A ss.length cap := by
  obtain ⟨A, cap, e, _⟩ := own_shape h
  exact ⟨A, cap, e⟩
set_option maxRecDepth 100000 in
set_option maxHeartbeats 2000000 in
theorem all1_in (n l Bn p mn B : Nat) (cs : Array Value) (names : NM) (g : Nat → Nat) (Kp : World → World → Prop) (Safe : World → Nat → Prop) (hcs : cs[1]? = some (.map (some mn)))
    (hK : ∀ X Y, Kp X Y → X.heap.size ≤ Y.heap.size ∧ Y.heap[Bn]? = X.heap[Bn]? ∧ Y.heap[p]? = X.heap[p]? ∧ Y.heap[mn]? = X.heap[mn]?)
    (hS : ∀ X Y k, Safe X k → Below X.heap.size X Y → Safe Y k)
    (hKS : ∀ X Y k, Safe X k → (∃ cs t fz, X.heap[k]? = some (.cells cs t fz)) → Kp X Y → Safe Y k ∧ Y.heap[k]? = X.heap[k]?)
    (J Jx : List (Nm × Nat) → World → Prop) (hJ : ∀ s X Y, J s X → Turn B (fun _ => False) X Y → J s Y)
    (hY : ∀ pre x W1, J pre W1 → names[pre.length]? = some x → YieldAt Fence.wide (n - 1) Try.prog l #[.string (S x.1), .pointer (some ⟨g x.2, 0, none⟩)] W1 fun e W' =>
      (e = .returned (.bool true) ∧ J (pre ++ [x]) W' ∧ Kp W1 W') ∨ (e = .returned (.bool false) ∧ Jx (pre ++ [x]) W'))
    (W : World) (hbox : Boxed W Bn 24 (.pointer (some ⟨p, 0, none⟩))) (hp : W.heap[p]? = some (.cells cs 62 (0, 0))) (hm : SM W mn (nmB g names)) (hl : names.length ≤ 1000)
    (hs0 : ∀ W' k, Below W.heap.size W W' → W.heap.size ≤ k → Safe W' k) (h0 : J [] W) :
    CallsIn Fence.wide n Try.prog 63 #[.func (.yield l) #[] #[], .pointer (some ⟨Bn, 0, none⟩)] W fun e W' => (∃ v, e = .returned v) ∧
      ((∃ xs : List (Nm × Nat), xs = names ∧ J xs W') ∨ (∃ pre, True ∧ Jx pre W')) := by
  refine callsIn_of_wp Try.func63 rfl trivial ?_ rfl
  simp only [Try.ntmps63, List.size_toArray, List.length_cons, List.length_nil, Nat.reduceAdd, Nat.reduceSub, Array.replicate_succ, Array.replicate_zero, List.push_toArray, List.append_toArray, List.nil_append, List.cons_append]
  have HKS := Lib.hid hKS
  have HK := Lib.hid hK
  have HS := Lib.hid hS
  have HJ := Lib.hid hJ
  have HY := Lib.hid hY
  have HS0 := Lib.hid hs0
  have HM := Lib.hid hm
  have HP := Lib.hid hp
  have HX := Lib.hid hbox
  have HAP := Lib.hid (nmB_apart (rising_apart hm.rising))
  have HKL : Hid (∀ p ∈ names, p.1.length ≤ maxLen) := Lib.hid (fun p hp => hm.key_le (p.1, g p.2) (List.mem_map.2 ⟨p, hp, rfl⟩))
  have cb := hbox.cell
  have cp := cell_of_block hp 1 _ hcs
  clear hKS hK hS hJ hY hs0 hm hp hbox
  gi_wp2_with fail
  refine ⟨trivial, fun h => absurd h (by decide), (callsIn_wide.2 (lib_keys' (some mn) W)).mono ?_⟩
  rintro e w1 ⟨rfl, rfl⟩
  gi_wp2_with fail
  refine ⟨trivial, fun h => absurd h (by decide), (callsIn_wide.2 (lib_sorted' mn (nmB g names) W HM.out (by rw [nmB_length]; omega))).mono ?_⟩
  rintro e w2 ⟨v, rfl, ho, hb⟩
  have hnm : (nmB g names).map (·.1) = names.map (·.1) := by
    unfold nmB
    rw [List.map_map]
    rfl
  rw [hnm] at ho
  obtain ⟨A, cap, rfl⟩ := own_rd_len ho
  rw [List.length_map] at ho ⊢
  have HO := Lib.hid ho
  have HB := Lib.hid hb
  clear ho hb hnm
  gi_wp2_with fail
  gi_loopw [12] (fun i wr => ∃ pre : List (Nm × Nat), i = .int .i64 (pre.length : Int) ∧ pre.length ≤ names.length ∧ pre = names.take pre.length ∧ wr.heap[Bn]? = W.heap[Bn]? ∧ wr.heap[p]? = W.heap[p]? ∧ SM wr mn (nmB g names) ∧ OwnS wr (W.heap.size + 1) (.slice A names.length cap) (names.map (·.1)) ∧ (∀ k, (Value.slice A names.length cap).ownBlock = some k → Safe wr k) ∧ J pre wr)
    (fun i _ => names.length - (intOf i).toNat)
  case atStart =>
    refine ⟨[], rfl, Nat.zero_le _, rfl, HB.out.block _ HX.out.lt, HB.out.block _ (Array.getElem?_eq_some_iff.1 HP.out).1, HM.out.below HB.out, HO.out, fun k hk => HS0.out w2 k HB.out ?_, HJ.out _ _ _ h0 (Turn.of_below _ _ HB.out)⟩
    have := (World.ownsRow.lt HO.out k hk).1
    omega
  case round =>
    obtain ⟨pre, rfl, hpl, hpre, hbx, hpx, hsm, hown, hsafe, hj⟩ := hrel
    have HBX := Lib.hid (hbx.trans HX.out)
    have HPX := Lib.hid (hpx.trans HP.out)
    have HSM := Lib.hid hsm
    have HOW := Lib.hid hown
    have HSF := Lib.hid hsafe
    have HJ0 := Lib.hid hj
    have HPR := Lib.hid hpre
    clear hbx hpx hsm hown hsafe hj hpre
    by_cases hlt : pre.length < names.length
    · have hne : names.map (·.1) ≠ [] := by
        intro e
        have := congrArg List.length e
        rw [List.length_map] at this
        simp at this
        rw [this] at hlt
        simp at hlt
      obtain ⟨gg, cap', he, _, _, _, hcell⟩ := HOW.out.shape hne
      have hA : A = some ⟨gg, 0, none⟩ := by injection he
      have hi := idxR gg A names.length cap pre.length hA hlt
      have hx : names[pre.length]? = some names[pre.length] := List.getElem?_eq_getElem hlt
      have hc := hcell pre.length names[pre.length].1 (by rw [List.getElem?_map, hx]; rfl)
      generalize names[pre.length] = x at hx hc
      have hmem : x ∈ names := List.mem_of_getElem? hx
      have cb := (show Boxed wr Bn 24 (.pointer (some ⟨p, 0, none⟩)) from HBX.out).cell
      have cp := cell_of_block HPX.out 1 _ hcs
      have hlk := HSM.out.look' x.1 (HKL.out x hmem)
      rw [nmB_lk, mlk_of_mem HAP.out hmem] at hlk
      replace hlk : (Instr.lookup TM (.map (some mn)) (.string (S x.1)) false).run Try.prog wr = .ok (.pointer (some ⟨g x.2, 0, none⟩)) wr := hlk
      obtain ⟨fn, tmps, assign, body, hy, hR⟩ := HY.out pre x wr HJ0.out hx
      have HR := Lib.hid hR
      have Hx := Lib.hid hx
      clear hne he hA hcell hx hmem hR
      gi_wp2_with fail
      refine ⟨fun h => absurd h (by decide), HR.out.mono ?_⟩
      rintro e W3 (⟨rfl, hJ3, hk3⟩ | ⟨rfl, hJx3⟩)
      · obtain ⟨k1, k2, k3, k4⟩ := HK.out _ _ hk3
        have hnew : pre ++ [x] = names.take (pre ++ [x]).length := by
          have hlt' := (List.getElem?_eq_some_iff.1 Hx.out)
          obtain ⟨h1, h2⟩ := hlt'
          rw [List.length_append, List.length_singleton, List.take_succ_eq_append_getElem h1, h2, ← HPR.out]
        have HN := Lib.hid hnew
        have HW3 : Hid (W3.heap[Bn]? = W.heap[Bn]? ∧ W3.heap[p]? = W.heap[p]? ∧ SM W3 mn (nmB g names) ∧ OwnS W3 (W.heap.size + 1) (.slice A names.length cap) (names.map (·.1)) ∧ (∀ k, (Value.slice A names.length cap).ownBlock = some k → Safe W3 k) ∧ J (pre ++ [x]) W3) := Lib.hid (by
          refine ⟨k2.trans (HBX.out.trans HX.out.symm), k3.trans (HPX.out.trans HP.out.symm), HSM.out.kept k4, own_keep HOW.out (fun k hk => ?_), fun k hk => ?_, hJ3⟩
          · obtain ⟨cur, hb⟩ := own_obj HOW.out hk
            exact (HKS.out _ _ k (HSF.out k hk) ⟨_, _, _, hb⟩ hk3).2
          · obtain ⟨cur, hb⟩ := own_obj HOW.out hk
            exact (HKS.out _ _ k (HSF.out k hk) ⟨_, _, _, hb⟩ hk3).1)
        clear k1 k2 k3 k4 hk3 hJ3 hnew
        gi_wp2
        go_roundw
        case rel =>
          obtain ⟨a1, a2, a3, a4, a5, a6⟩ := HW3.out
          refine ⟨pre ++ [x], by rw [List.length_append]; go_num, by rw [List.length_append]; simp; omega, HN.out, a1, a2, a3, a4, a5, a6⟩
        case measure => simp [intOf]; omega
      · gi_wp2
        refine bodyPost_ret (results_none rfl _ _ _) rfl ?_
        exact ⟨⟨_, rfl⟩, .inr ⟨_, trivial, hJx3⟩⟩
    · have hall : pre = names := by
        have h1 := HPR.out
        rw [show pre.length = names.length from by omega, List.take_length] at h1
        exact h1
      gi_wp2_with fail
      refine bodyPost_end (results_none rfl _ _ _) rfl ?_
      exact ⟨⟨_, rfl⟩, .inl ⟨pre, hall, HJ0.out⟩⟩
end Go.Proofs.Ytmdecbockpgagaa

/- disk: List. -/
namespace Go.Proofs.Ytmdecbockpgagaa
open Go.RowKit Go.Maps Go.Shelf Go.Proofs.YtmdecbockpgagaaW.PrintWords Go.Proofs.YtmdecbockpgagaaW.PrintMore
variable {B : Nat} {G : DG} {d : DS} {w w' : World}

attribute [local go_sem] Oper.semAt_some

theorem all_seq (n Bn p mn : Nat) (cs : Array Value) (names : NM) (g : Nat → Nat) (Kp : World → World → Prop) (Safe : World → Nat → Prop) (hcs : cs[1]? = some (.map (some mn)))
    (hK : ∀ X Y, Kp X Y → X.heap.size ≤ Y.heap.size ∧ Y.heap[Bn]? = X.heap[Bn]? ∧ Y.heap[p]? = X.heap[p]? ∧ Y.heap[mn]? = X.heap[mn]?)
    (hS : ∀ X Y k, Safe X k → Below X.heap.size X Y → Safe Y k)
    (hKS : ∀ X Y k, Safe X k → (∃ cs t fz, X.heap[k]? = some (.cells cs t fz)) → Kp X Y → Safe Y k ∧ Y.heap[k]? = X.heap[k]?)
    (w : World) (hbox : Boxed w Bn 24 (.pointer (some ⟨p, 0, none⟩))) (hp : w.heap[p]? = some (.cells cs 62 (0, 0))) (hm : SM w mn (nmB g names)) (hl : names.length ≤ 1000)
    (hs0 : ∀ W' k, Below w.heap.size w W' → w.heap.size ≤ k → Safe W' k) :
    SeqT n Try.prog 63 #[.pointer (some ⟨Bn, 0, none⟩)] (fun x : Nm × Nat => #[.string (S x.1), .pointer (some ⟨g x.2, 0, none⟩)]) (fun pre x _ => names[pre.length]? = some x) (fun _ => False) Kp (fun xs => xs = names) (fun _ => True) w := fun l J Jx W hb hJ _ hY h0 =>
  all1_in n l Bn p mn W.heap.size cs names g Kp Safe hcs hK hS hKS J Jx hJ hY W ((hb.block _ hbox.lt).trans hbox) ((hb.block _ (Array.getElem?_eq_some_iff.1 hp).1).trans hp) (hm.below hb) hl
    (fun W' k hb' hk => hs0 W' k (hb.trans (hb'.mono hb.size)) (Nat.le_trans hb.size hk)) h0

def rowIn (X : World) (ob : Nat) : Option Nat := match X.cell? ⟨ob, 0, none⟩ with
  | some v => v.ownBlock
  | none => none
theorem rowIn_boxed {X : World} {ob : Nat} {t : TypeId} {v : Value} (h : Boxed X ob t v) : rowIn X ob = v.ownBlock := by
  unfold rowIn
  rw [h.cell]
theorem rowIn_same {X Y : World} {ob : Nat} (h : Y.heap[ob]? = X.heap[ob]?) : rowIn Y ob = rowIn X ob := by
  unfold rowIn
  rw [World.cell?_of_block (a := ⟨ob, 0, none⟩) h]
/-- A round that appends to the row in the box ob. -/
structure LKp (ob n1 : Nat) (F : Nat → Prop) (X Y : World) : Prop where
  size : X.heap.size ≤ Y.heap.size
  fix : ∀ k, F k → Y.heap[k]? = X.heap[k]?
  same : ∀ (k : Nat) (o : Obj), X.heap[k]? = some o → (k < n1 ∨ o.isCells = true) → k ≠ ob → rowIn X ob ≠ some k → Y.heap[k]? = some o
  row : rowIn Y ob = rowIn X ob ∨ ∃ b, rowIn Y ob = some b ∧ X.heap.size ≤ b
theorem LKp.trans {ob n1 : Nat} {F : Nat → Prop} {X Y Z : World} (h : LKp ob n1 F X Y) (k : LKp ob n1 F Y Z) : LKp ob n1 F X Z := by
  refine ⟨Nat.le_trans h.size k.size, fun i hi => (k.fix i hi).trans (h.fix i hi), fun i o hi hc hn hr => k.same i o (h.same i o hi hc hn hr) hc hn (fun e => ?_), ?_⟩
  · rcases h.row with h1 | ⟨b, h1, h2⟩
    · exact hr (h1 ▸ e)
    · rw [h1] at e
      cases e
      have := (Array.getElem?_eq_some_iff.1 hi).1
      omega
  · rcases k.row with k1 | ⟨b, k1, k2⟩
    · rcases h.row with h1 | ⟨b, h1, h2⟩
      · exact .inl (k1.trans h1)
      · exact .inr ⟨b, k1.trans h1, h2⟩
    · exact .inr ⟨b, k1, Nat.le_trans h.size k2⟩
theorem LKp.refl (ob n1 : Nat) (F : Nat → Prop) (X : World) : LKp ob n1 F X X := ⟨Nat.le_refl _, fun _ _ => rfl, fun _ _ h _ _ _ => h, .inl rfl⟩
theorem LKp.put {ob n1 : Nat} {F : Nat → Prop} (W : World) (l : Nat) (o o' : Obj) (hl : n1 ≤ l) (ho : W.heap[l]? = some o) (hc : o.isCells = false) (hob : ob < n1) (hF : ∀ k, F k → k < n1) : LKp ob n1 F W (W.putObj l o') := by
  refine ⟨by simp, fun k hk => World.putObj_heap_other (by have := hF k hk; omega), fun k o2 hk hc2 _ _ => ?_, .inl (rowIn_same (World.putObj_heap_other (by omega)))⟩
  by_cases e : k = l
  · subst e
    rw [ho] at hk
    cases hk
    rcases hc2 with h | h
    · omega
    · rw [hc] at h; cases h
  · exact (World.putObj_heap_other e).trans hk
def LSafe (ob : Nat) (X : World) (k : Nat) : Prop := k ≠ ob ∧ ob < X.heap.size ∧ rowIn X ob ≠ some k
theorem LSafe.below {ob : Nat} {X Y : World} {k : Nat} (h : LSafe ob X k) (hb : Below X.heap.size X Y) : LSafe ob Y k :=
  ⟨h.1, Nat.lt_of_lt_of_le h.2.1 hb.size, by rw [rowIn_same (hb.block ob h.2.1)]; exact h.2.2⟩
theorem LSafe.round {ob n1 : Nat} {F : Nat → Prop} {X Y : World} {k : Nat} (h : LSafe ob X k) (hc : ∃ cs t fz, X.heap[k]? = some (.cells cs t fz)) (hk : LKp ob n1 F X Y) : LSafe ob Y k ∧ Y.heap[k]? = X.heap[k]? := by
  obtain ⟨cs, t, fz, hc⟩ := hc
  have hlt := (Array.getElem?_eq_some_iff.1 hc).1
  refine ⟨⟨h.1, Nat.lt_of_lt_of_le h.2.1 hk.size, fun e => ?_⟩, (hk.same k _ hc (.inr rfl) h.1 h.2.2).trans hc.symm⟩
  rcases hk.row with h1 | ⟨b, h1, h2⟩
  · exact h.2.2 (h1 ▸ e)
  · rw [h1] at e
    cases e
    omega
/-- What lies between two rounds of List's. -/
def LI (ob : Nat) (names : NM) (w : World) (pre : List (Nm × Nat)) (X : World) : Prop :=
  (Below w.heap.size w X ∧ ob + 2 ≤ X.heap.size) ∧ pre = names.take pre.length ∧ ∃ u, Boxed X ob 93 u ∧ OwnS X (ob + 2) u (pre.map (·.1))
theorem LI.turn {ob : Nat} {names : NM} {pre : List (Nm × Nat)} {X Y : World} {b : Nat} (h : LI ob names w pre X) (hb : w.heap.size ≤ b) (t : Turn b (fun _ => False) X Y) : LI ob names w pre Y := by
  obtain ⟨h1, h2, u, h3, h4⟩ := h
  exact ⟨⟨t.below h1.1 (Nat.le_refl _) hb (fun _ e => e.elim), Nat.le_trans h1.2 t.size⟩, h2, u, t.boxed h3 (fun e => e.elim), t.row h4 (fun _ _ e => e.elim)⟩

end Go.Proofs.Ytmdecbockpgagaa

/- disk: Crash's choices. -/
namespace Go.Proofs.Ytmdecbockpgagaa
open Go.RowKit Go.Maps Go.Proofs.YtmdecbockpgagaaW.PrintWords Go.Proofs.YtmdecbockpgagaaW.PrintMore
variable {B : Nat} {G : DG} {d : DS} {w w' : World}

/-- Nothing but block cb has turned. -/
structure Only (cb : Nat) (w w' : World) : Prop where
  os : w'.os = w.os
  tape : w'.tape = w.tape
  output : w'.output = w.output
  size : w.heap.size ≤ w'.heap.size
  block : ∀ k, k < w.heap.size → k ≠ cb → w'.heap[k]? = w.heap[k]?
theorem Only.refl (cb : Nat) (w : World) : Only cb w w := ⟨rfl, rfl, rfl, Nat.le_refl _, fun _ _ _ => rfl⟩
theorem Only.set (cb : Nat) (w : World) (j : Nat) (v : Value) : Only cb w (w.setCell ⟨cb, j, none⟩ v) := ⟨rfl, rfl, rfl, by unfold World.setCell; simp, fun k _ hk => Below.heap_setCell w ⟨cb, j, none⟩ v k hk⟩
/-- The choices in their box. -/
def Chs (W : World) (cb : Nat) (cs : List Int) : Prop := ∃ v, Boxed W cb 22 v ∧ ∃ A c, v = .slice A cs.length c ∧ cs.length ≤ c ∧ By cs ∧ ReadsInt W .u8 A cs.length cs
/-- .. the row apart from a disk's blocks. -/
def ChF (G : DG) (W : World) (cb : Nat) (cs : List Int) : Prop := ∃ A c, Boxed W cb 22 (.slice A cs.length c) ∧ cs.length ≤ c ∧ By cs ∧ ReadsInt W .u8 A cs.length cs ∧ (0 < cs.length → ∃ a, A = some a ∧ ¬ G.has a.block ∧ a.block ≠ cb) ∧ ¬ G.has cb
theorem reads_lt {W : World} {a : Addr} {v : Value} (h : W.cell? a = some v) : a.block < W.heap.size := by
  unfold World.cell? at h
  rcases Nat.lt_or_ge a.block W.heap.size with hl | hl
  · exact hl
  · rw [Array.getElem?_eq_none hl] at h
    cases h
theorem add_block (a : Addr) (j : Nat) : (a.add j).block = a.block := by
  unfold Addr.add
  split <;> rfl
theorem ChF.step {W W' : World} {G G' : DG} {cb : Nat} {cs : List Int} (h : ChF G W cb cs) (t : Tr W G W' G') : ChF G' W' cb cs := by
  obtain ⟨A, c, hb, hc, hby, hr, ha, hn⟩ := h
  refine ⟨A, c, (t.block cb hb.lt hn).trans hb, hc, hby, ⟨hr.1, hr.2.1, fun h0 => ?_⟩, fun h0 => ?_, fun hh => hn (t.foot cb hb.lt hh)⟩
  · obtain ⟨ad, rfl, hcell⟩ := hr.2.2 h0
    obtain ⟨a, he, hna, hac⟩ := ha h0
    cases he
    refine ⟨ad, rfl, fun j hj => ?_⟩
    have h1 := hcell j hj
    have h2 := reads_lt h1
    rw [add_block] at h2
    exact (World.cell?_of_block (by rw [add_block]; exact t.block ad.block h2 hna)).trans h1
  · obtain ⟨ad, rfl, hcell⟩ := hr.2.2 h0
    obtain ⟨a, he, hna, hac⟩ := ha h0
    cases he
    have h2 := reads_lt (hcell 0 h0)
    rw [add_block] at h2
    exact ⟨ad, rfl, fun hh => hna (t.foot _ h2 hh), hac⟩
theorem cell_other (w : World) (cb : Nat) (j : Nat) (v : Value) {a : Addr} (h : a.block ≠ cb) : (w.setCell ⟨cb, j, none⟩ v).cell? a = w.cell? a :=
  World.cell?_of_block (Below.heap_setCell w ⟨cb, j, none⟩ v a.block h)
theorem info8x : ∃ i, Try.prog.info? 5 = some i ∧ i.size = 1 := by
  obtain ⟨i, hi, _, h, _⟩ := info_parts info8
  exact ⟨i, hi, h⟩
theorem cut1 (A : Option Addr) (n c : Nat) (hn : 1 ≤ n) : (∀ W : World, (Instr.slice 22 (.slice A n c) (some (.int .i64 1)) none none).run Try.prog W = .ok (.slice (if c = 1 then A else A.map (·.add 1)) (n - 1) (c - 1)) W) ∧
    ∀ (w : World) (xs : List Int), n ≤ c → ReadsInt w .u8 A n xs → ReadsInt w .u8 (if c = 1 then A else A.map (·.add 1)) (n - 1) (xs.drop 1) := by
  obtain ⟨i, hi, hsz⟩ := info8x
  have hel : Try.prog.elem 22 = 5 := by simp [Program.elem, Try.underlying22]
  have hu : Try.prog.underlying 22 = some (.slice (Try.prog.elem 22)) := by rw [hel]; exact Try.underlying22
  refine ⟨fun W => ?_, fun w xs hc h => h.drop_ 1 hn hc⟩
  have := run_slice_l (P := Try.prog) W 22 A n c hu .i64 ((1 : Nat) : Int) (by decide) (by omega)
  rw [hel] at this
  refine this.trans ?_
  simp [sizeOf, typeInfo, hi, hsz, sliced, Result.andThen]
set_option maxHeartbeats 1000000 in
theorem disk_choose (w : World) (cb n : Nat) (cs : List Int) (G : DG) (hn : n ≤ 1000000000000) (h : ChF G w cb cs) :
    Calls Try.prog 39 #[.int .i64 (n : Int), .pointer (some ⟨cb, 0, none⟩)] w fun e w' => e = .returned (.int .i64 ((pick1 cs n).1 : Int)) ∧ ChF G w' cb (pick1 cs n).2 ∧ Only cb w w' := by
  have H := Lib.hid h
  obtain ⟨A, c, hb, hc, hby, hr, ha, hncb⟩ := h
  have c0 := hb.cell
  have z0 := hb.frozen
  cases cs with
  | nil =>
    clear hb hr ha
    go_enter Try.func39, Try.ntmps39
    go_wp2_with fail
    go_ret
    exact ⟨rfl, H.out, Only.refl _ _⟩
  | cons x r =>
    obtain ⟨hcut, hcr⟩ := cut1 A (x :: r).length c (by simp)
    obtain ⟨ad, rfl, hcell⟩ := hr.2.2 (by simp)
    obtain ⟨a, hea, hna, hne⟩ := ha (by simp)
    cases hea
    have hx := hcell 0 (by simp)
    have hx' : w.cell? ad = some (.int .u8 x) := hx
    have hA' : ∃ a', (if c = 1 then some ad else (some ad).map (·.add 1)) = some a' ∧ a'.block = ad.block := by
      split
      · exact ⟨ad, rfl, rfl⟩
      · exact ⟨ad.add 1, rfl, add_block _ _⟩
    obtain ⟨a', he', hab⟩ := hA'
    rw [he'] at hcut hcr
    have ⟨hx0, hx1⟩ := hby x List.mem_cons_self
    have hrem : x.tmod ((n : Int) + 1) = ((x.toNat % (n + 1) : Nat) : Int) := by
      obtain ⟨m, rfl⟩ := Int.eq_ofNat_of_zero_le hx0
      rw [Int.toNat_natCast]
      rfl
    obtain ⟨q, hq⟩ : ∃ q : Nat, x.toNat % (n + 1) = q := ⟨_, rfl⟩
    rw [hq] at hrem
    have Hq := Lib.hid hq
    clear hq
    have hi0 : ∀ W, (Instr.indexAt 22 (.slice (some ad) (x :: r).length c) (.int .i64 0)).run Try.prog W = .ok (.pointer (some ad)) W := fun W => by
      have h2 : (0 : Int) < (((x :: r).length : Nat) : Int) := by rw [List.length_cons]; omega
      go_simp
    have hn1 : ¬ ((n : Int) + 1 = 0) := by omega
    have HQ : Hid (ChF G (w.setCell ⟨cb, 0, none⟩ (.slice (some a') ((x :: r).length - 1) (c - 1))) cb r) := Lib.hid (by
      have hR : ReadsInt (w.setCell ⟨cb, 0, none⟩ (.slice (some a') ((x :: r).length - 1) (c - 1))) .u8 (some ad) (x :: r).length (x :: r) := by
        refine ⟨hr.1, hr.2.1, fun h0 => ⟨ad, rfl, fun j hj => ?_⟩⟩
        rw [cell_other _ _ _ _ (by unfold Addr.add; split <;> exact hne)]
        exact hcell j hj
      exact ⟨some a', c - 1, hb.set _, by simp at hc ⊢; omega, fun y hy => hby y (List.mem_cons_of_mem _ hy), hcr _ (x :: r) hc hR, fun _ => ⟨a', rfl, by rw [hab]; exact hna, by rw [hab]; exact hne⟩, hncb⟩)
    have HON := Lib.hid (Only.set cb w 0 (.slice (some a') ((x :: r).length - 1) (c - 1)))
    have HP : Hid (pick1 (x :: r) n = (x.toNat % (n + 1), r)) := Lib.hid rfl
    have hl : ¬ ((((x :: r).length : Nat) : Int) = 0) := by rw [List.length_cons]; omega
    generalize (x :: r).length = len at *
    have hcut1 : ∀ W : World, (Instr.slice 22 (.slice (some ad) len c) (some (.int .i64 1)) none none).run Try.prog W = .ok (.slice (some a') (len - 1) (c - 1)) W := hcut
    have hl2 : ((len : Int) == 0) = false := beq_eq_false_iff_ne.2 hl
    clear hcut hcr hr hcell hx hb hby hl ha hna hne he' hab
    go_enter Try.func39, Try.ntmps39
    go_wp2_with fail
    go_ret
    rw [HP.out, Hq.out]
    exact ⟨rfl, HQ.out, HON.out⟩
end Go.Proofs.Ytmdecbockpgagaa

/- What holds of a disk behind each call: Ok. -/
namespace Go.Proofs.Ytmdecbockpgagaa
open Go.RowKit
variable {d : DS}

theorem Ok.append (ho : d.Ok) (hst : d.steps < 1000000000) (s : Nm) (xs : List Int) : (d.append s xs).2.Ok := by
  have hT := Ok.tick ho hst
  by_cases h0 : d.tick.open_ s [] = 0
  · cases hm : mlk d.names s with
    | none =>
      unfold DS.open_ at h0
      rw [show mlk d.tick.names s = none from hm] at h0
      split at h0
      · rename_i h1
        exact absurd h0 h1
      · simp at h0
    | some i =>
      obtain ⟨f, hf⟩ : ∃ f, d.files[i]? = some f := ⟨_, List.getElem?_eq_getElem (ho.names _ (mlk_mem hm))⟩
      have hb := ho.bytes f (List.mem_of_getElem? hf)
      by_cases hq : d.quota < d.used ∨ d.quota - d.used < xs.length ∨ 400000 - (f.b.length : Int) < xs.length
      · rw [append_no d s xs i _ h0 hm hf hq]
        exact hT
      · rw [append_yes d s xs i _ h0 hm hf hq]
        have h1 : (f.b ++ xs).length = f.b.length + xs.length := List.length_append
        refine Ok.setF hT ⟨?_, ?_⟩
        · show (f.b ++ xs).length ≤ 400000
          omega
        · show f.kept ≤ (f.b ++ xs).length
          omega
  · have : (d.append s xs).2 = d.tick := by
      unfold DS.append
      simp only
      rw [if_pos h0]
    rw [this]
    exact hT
theorem open_some {s : Nm} {o : List Nm} (h0 : d.open_ s o = 0) : ∃ i, mlk d.names s = some i := by
  unfold DS.open_ at h0
  split at h0
  · rename_i h1
    exact absurd h0 h1
  · cases hm : mlk d.names s with
    | none => rw [hm] at h0; simp at h0
    | some i => exact ⟨i, rfl⟩
theorem Ok.sync (ho : d.Ok) (hst : d.steps < 1000000000) (s : Nm) : (d.sync s).2.Ok := by
  have hT := Ok.tick ho hst
  by_cases h0 : d.tick.open_ s [] = 0
  · obtain ⟨i, hm⟩ := open_some h0
    have hf := List.getElem?_eq_getElem (hT.names _ (mlk_mem hm))
    have hb := hT.bytes _ (List.mem_of_getElem? hf)
    rw [sync_yes d s i _ h0 hm hf]
    exact Ok.setF hT ⟨hb.1, Nat.le_refl _⟩
  · have : (d.sync s).2 = d.tick := by
      unfold DS.sync
      simp only
      rw [if_pos h0]
    rw [this]
    exact hT
theorem Ok.remove (ho : d.Ok) (hst : d.steps < 1000000000) (s : Nm) : (d.remove s).2.Ok := by
  have hT := Ok.tick ho hst
  by_cases h0 : d.tick.open_ s [] = 0
  · obtain ⟨i, hm⟩ := open_some h0
    have hn := code_zero (open_zero h0) s List.mem_cons_self
    have : (d.remove s).2 = d.tick.changes ⟨none, s, []⟩ := by
      unfold DS.remove
      simp only
      rw [if_neg (by rw [h0]; simp)]
    rw [this]
    refine Ok.changes hT _ _ (does_gone (nameB_ne hn) hm) (fun i hi => by cases hi) ⟨(nameB_len hn).2, by simp⟩ (Nat.le_trans (mdel_len_le _ _) hT.many) ?_
    have := ho.sinceN
    show (d.since.length : Int) + 1 ≤ 2 * (d.steps + 1)
    omega
  · have : (d.remove s).2 = d.tick := by
      unfold DS.remove
      simp only
      rw [if_pos h0]
    rw [this]
    exact hT
theorem Ok.rename (ho : d.Ok) (hst : d.steps < 1000000000) (s t : Nm) : (d.rename s t).2.Ok := by
  have hT := Ok.tick ho hst
  by_cases h0 : d.tick.open_ s [t] = 0
  · by_cases h1 : s = t
    · have : (d.rename s t).2 = d.tick := by
        unfold DS.rename
        simp only
        rw [if_neg (by rw [h0]; simp), if_pos h1]
      rw [this]
      exact hT
    · obtain ⟨i, hm⟩ := open_some h0
      have hn := code_zero (open_zero h0) s List.mem_cons_self
      have hn2 := code_zero (open_zero h0) t (List.mem_cons_of_mem _ List.mem_cons_self)
      have : (d.rename s t).2 = d.tick.changes ⟨none, s, t⟩ := by
        unfold DS.rename
        simp only
        rw [if_neg (by rw [h0]; simp), if_neg h1]
      rw [this]
      refine Ok.changes hT _ _ (does_moved (nameB_ne hn) (nameB_ne hn2) hm) (fun i hi => by cases hi) ⟨(nameB_len hn).2, (nameB_len hn2).2⟩ ?_ ?_
      · have h2 := mdel_len_lt hm
        have h3 := mput_len_le (mdel d.tick.names s) t i
        have h4 := hT.many
        omega
      · have := ho.sinceN
        show (d.since.length : Int) + 1 ≤ 2 * (d.steps + 1)
        omega
  · have : (d.rename s t).2 = d.tick := by
      unfold DS.rename
      simp only
      rw [if_pos h0]
    rw [this]
    exact hT
theorem Ok.syncDir (ho : d.Ok) (hst : d.steps < 1000000000) : (d.syncDir).2.Ok := by
  have hT := Ok.tick ho hst
  by_cases h0 : d.tick.code [] = 0
  · have : (d.syncDir).2 = d.tick.keeps := by
      unfold DS.syncDir
      simp only
      rw [if_neg (by rw [h0]; simp)]
      rfl
    rw [this]
    exact Ok.keeps hT
  · have : (d.syncDir).2 = d.tick := by
      unfold DS.syncDir
      simp only
      rw [if_pos h0]
    rw [this]
    exact hT
end Go.Proofs.Ytmdecbockpgagaa

/- disk: Crash: what turns. -/
namespace Go.Proofs.Ytmdecbockpgagaa
open Go.RowKit Go.Maps Go.Proofs.YtmdecbockpgagaaW.PrintWords Go.Proofs.YtmdecbockpgagaaW.PrintMore
variable {B : Nat} {G : DG} {d : DS} {w w' : World}

theorem FA.row_blk {i j g : Nat} (h : FA B G.bl G.vl d.files w) (hi : i < d.files.length) (hj : j < d.files.length) (hg : (G.row i).ownBlock = some g) : g ≠ G.blk j := by
  obtain ⟨cur, hb⟩ := own_obj (h.rows i _ (List.getElem?_eq_getElem hi)) hg
  exact obj_ne hb (h.file j _ (List.getElem?_eq_getElem hj)) (by simp)
theorem FA.turn (hf : FA B G.bl G.vl d.files w) {i : Nat} (hi : i < d.files.length) {v' : Value} {b' : List Int} {k' : Nat} (t : FTurn w G i v' b' k' B w') : FA B G.bl (G.vl.set i v') (setFile d i ⟨b', k'⟩).files w' := by
  have hlen : G.vl.length = d.files.length := hf.nv
  have hne : ∀ {k : Nat}, (∀ g, (G.row i).ownBlock = some g → k ≠ g) → (G.row i).ownBlock ≠ some k := fun hk e => hk _ e rfl
  have hlt : ∀ j, j < d.files.length → G.blk j < w.heap.size := fun j hj => (Array.getElem?_eq_some_iff.1 (hf.file j _ (List.getElem?_eq_getElem hj))).1
  refine { nb := ?_, nv := ?_, file := ?_, rows := ?_, bys := ?_, ab := ?_, av := ?_, lo := ?_ }
  · show _ = (d.files.set i _).length
    rw [List.length_set]; exact hf.nb
  · show (G.vl.set i v').length = (d.files.set i _).length
    rw [List.length_set, List.length_set]; exact hlen
  · intro j f hj
    rcases get_set_case hj with ⟨rfl, rfl⟩ | ⟨hij, hj⟩
    · show w'.heap[G.blk i]? = some (.cells #[(G.vl.set i v').getD i _, _] _ _)
      rw [getD_set_same _ _ _ (by omega)]
      exact t.cell
    · have hj' := (List.getElem?_eq_some_iff.1 hj).1
      show w'.heap[G.blk j]? = some (.cells #[(G.vl.set i v').getD j _, _] _ _)
      rw [getD_set_other _ _ _ hij, t.other _ (hlt j hj') (fun e => hij (hf.ab i j hi hj' e)) (hne fun g hg => (FA.row_blk hf hi hj' hg).symm)]
      exact hf.file j f hj
  · intro j f hj
    rcases get_set_case hj with ⟨rfl, rfl⟩ | ⟨hij, hj⟩
    · show OwnB w' B ((G.vl.set i v').getD i _) b'
      rw [getD_set_same _ _ _ (by omega)]
      exact t.row
    · have hj' := (List.getElem?_eq_some_iff.1 hj).1
      show OwnB w' B ((G.vl.set i v').getD j _) f.b
      rw [getD_set_other _ _ _ hij]
      refine own_keep (hf.rows j f hj) (fun g hg => t.other g (World.ownsRow.lt (hf.rows j f hj) g hg).2 (FA.row_blk hf hj' hi hg).symm (fun e => hij (hf.av i j g hi hj' e hg)))
  · intro j f hj
    rcases get_set_case hj with ⟨rfl, rfl⟩ | ⟨hij, hj⟩
    · exact t.by_
    · exact hf.bys j f hj
  · intro a b ha hb
    have ha' : a < (d.files.set i ⟨b', k'⟩).length := ha
    have hb' : b < (d.files.set i ⟨b', k'⟩).length := hb
    rw [List.length_set] at ha' hb'
    exact hf.ab a b ha' hb'
  · intro a b g ha hb h1 h2
    have ha' : a < (d.files.set i ⟨b', k'⟩).length := ha
    have hb' : b < (d.files.set i ⟨b', k'⟩).length := hb
    rw [List.length_set] at ha' hb'
    have h1' : ((G.vl.set i v').getD a (.pointer none)).ownBlock = some g := h1
    have h2' : ((G.vl.set i v').getD b (.pointer none)).ownBlock = some g := h2
    have key : ∀ c, c < d.files.length → c ≠ i → (G.vl.getD c (.pointer none)).ownBlock = some g → v'.ownBlock = some g → False := by
      intro c hc hci hg hv
      rcases t.at_ g hv with ht | hxs
      · exact hci (hf.av c i g hc hi hg ht)
      · have := (World.ownsRow.lt (hf.rows c _ (List.getElem?_eq_getElem hc)) g hg).2
        omega
    by_cases e1 : i = a <;> by_cases e2 : i = b
    · omega
    · subst e1
      rw [getD_set_same _ _ _ (by omega)] at h1'
      rw [getD_set_other _ _ _ e2] at h2'
      exact absurd (key b hb' (Ne.symm e2) h2' h1') id
    · subst e2
      rw [getD_set_same _ _ _ (by omega)] at h2'
      rw [getD_set_other _ _ _ e1] at h1'
      exact absurd (key a ha' (Ne.symm e1) h1' h2') id
    · rw [getD_set_other _ _ _ e1] at h1'
      rw [getD_set_other _ _ _ e2] at h2'
      exact hf.av a b g ha' hb' h1' h2'
  · intro j hj
    have hj' : j < (d.files.set i ⟨b', k'⟩).length := hj
    rw [List.length_set] at hj'
    exact hf.lo j hj'

/-- A disk while it crashes: its names' map is its kept one. -/
structure AtC (B : Nat) (G : DG) (d : DS) (w : World) : Prop extends AtW B G d w where
  since : w.ownsRow B 73 3 G.vs d.since.length (d.since.flatMap (chgV G.blk))
def DG.fall (G : DG) : DG := { G with mn := G.mq }
theorem AtC.keep (h : AtC B G d w) (hk : ∀ k, k = G.p ∨ k = G.mn ∨ G.vs.ownBlock = some k ∨ (∃ i, i < d.files.length ∧ G.blk i = k) ∨ (∃ i, i < d.files.length ∧ (G.row i).ownBlock = some k) → w'.heap[k]? = w.heap[k]?) : AtC B G d w' :=
  { cell := (hk _ (.inl rfl)).trans h.cell
    names := h.names.kept (hk _ (.inr (.inl rfl)))
    files := h.files.keep (fun i hi => hk _ (.inr (.inr (.inr (.inl ⟨i, hi, rfl⟩))))) (fun i _ hi hg => hk _ (.inr (.inr (.inr (.inr ⟨i, hi, hg⟩)))))
    lo := h.lo
    since := own_keep h.since (fun _ hg => hk _ (.inr (.inr (.inl hg)))) }
theorem AtC.lt (h : AtC B G d w) {k : Nat} (hk : k = G.p ∨ k = G.mn ∨ G.vs.ownBlock = some k ∨ (∃ i, i < d.files.length ∧ G.blk i = k) ∨ (∃ i, i < d.files.length ∧ (G.row i).ownBlock = some k)) : B ≤ k ∧ k < w.heap.size := by
  rcases hk with rfl | rfl | hk | ⟨i, hi, rfl⟩ | ⟨i, hi, hk⟩
  · exact ⟨h.lo.1, h.p_lt⟩
  · exact ⟨h.lo.2, h.names.lt⟩
  · exact h.since.lt k hk
  · exact ⟨h.files.lo i hi, (Array.getElem?_eq_some_iff.1 (h.files.file i _ (List.getElem?_eq_getElem hi))).1⟩
  · exact World.ownsRow.lt (h.files.rows i _ (List.getElem?_eq_getElem hi)) k hk
theorem AtC.below (h : AtC B G d w) (hb : Below w.heap.size w w') : AtC B G d w' := h.keep fun k hk => hb.block k (h.lt hk).2
theorem AtC.only (h : AtC B G d w) {cb : Nat} (ho : Only cb w w') (hc : ∃ v, Boxed w cb 22 v) : AtC B G d w' := by
  obtain ⟨v, hc⟩ := hc
  refine h.keep fun k hk => ho.block k (h.lt hk).2 ?_
  rcases hk with rfl | rfl | hk | ⟨i, hi, rfl⟩ | ⟨i, hi, hk⟩
  · exact obj_ne h.cell hc (by simp)
  · obtain ⟨es, clock, hb⟩ := h.names.obj
    exact obj_ne hb hc (by simp)
  · obtain ⟨cur, hb⟩ := own_obj h.since hk
    exact obj_ne hb hc (by simp)
  · exact obj_ne (h.files.file i _ (List.getElem?_eq_getElem hi)) hc (by simp)
  · obtain ⟨cur, hb⟩ := own_obj (h.files.rows i _ (List.getElem?_eq_getElem hi)) hk
    exact obj_ne hb hc (by simp)
/-- The map of names has turned. -/
theorem AtC.names_turn (h : AtC B G d w) {m' : NM} (hs : SM w' G.mn (nmB G.blk m')) (hg : w.grownBy w' (some G.mn)) : AtC B G { d with names := m' } w' := by
  have hk : ∀ k, k < w.heap.size → G.mn ≠ k → w'.heap[k]? = w.heap[k]? := fun k hk hne => hg.block k hk (fun e => hne (by cases e; rfl))
  obtain ⟨es, clock, hb⟩ := h.names.obj
  refine { cell := (hk _ h.p_lt h.p_mn.symm).trans h.cell, names := hs, files := ?_, lo := h.lo, since := ?_ }
  · refine h.files.keep (fun i hi => hk _ (Array.getElem?_eq_some_iff.1 (h.files.file i _ (List.getElem?_eq_getElem hi))).1 (obj_ne hb (h.files.file i _ (List.getElem?_eq_getElem hi)) (by simp))) (fun i g hi hg => ?_)
    have hr := h.files.rows i _ (List.getElem?_eq_getElem hi)
    obtain ⟨cur, hb2⟩ := own_obj hr hg
    exact hk _ (World.ownsRow.lt hr g hg).2 (obj_ne hb hb2 (by simp))
  · refine own_keep h.since (fun g hg => hk _ (h.since.lt g hg).2 ?_)
    obtain ⟨cur, hb2⟩ := own_obj h.since hg
    exact obj_ne hb hb2 (by simp)
theorem AtW.turn (h : AtW B G d w) {i : Nat} (hi : i < d.files.length) {v' : Value} {b' : List Int} {k' : Nat} (t : FTurn w G i v' b' k' B w') : AtW B { G with vl := G.vl.set i v' } (setFile d i ⟨b', k'⟩) w' := by
  obtain ⟨es, clock, hb⟩ := h.names.obj
  have hfi := h.files.file i _ (List.getElem?_eq_getElem hi)
  have hne : ∀ {k : Nat}, (∀ g, (G.row i).ownBlock = some g → k ≠ g) → (G.row i).ownBlock ≠ some k := fun hk e => hk _ e rfl
  refine { cell := ?_, names := ?_, files := h.files.turn hi t, lo := h.lo }
  · exact (t.other _ h.p_lt (h.p_blk hi).symm (hne fun g hg => h.p_row hi hg)).trans h.cell
  · refine h.names.kept (t.other _ h.names.lt (obj_ne hfi hb (by simp)) (hne fun g hg => ?_))
    obtain ⟨cur, hb2⟩ := own_obj (h.files.rows i _ (List.getElem?_eq_getElem hi)) hg
    exact obj_ne hb hb2 (by simp)

/-! ### the plain crash -/
theorem replay_take {m m' : NM} {l : List Chg} (h : replay m l = some m') : ∀ k, ∃ mk, replay m (l.take k) = some mk := by
  intro k
  induction l generalizing m k with
  | nil => exact ⟨m, by rw [List.take_nil]; rfl⟩
  | cons c r ih =>
    cases k with
    | zero => exact ⟨m, rfl⟩
    | succ k =>
      have h2 : (does c m).bind (fun m' => replay m' r) = some m' := h
      cases hd : does c m with
      | none => rw [hd] at h2; cases h2
      | some m1 =>
        rw [hd] at h2
        obtain ⟨mk, hk⟩ := ih h2 k
        exact ⟨mk, by show (does c m).bind (fun m' => replay m' (r.take k)) = _; rw [hd]; exact hk⟩
theorem replay_succ {m mk mk' : NM} {l : List Chg} {k : Nat} (hl : k < l.length) (h : replay m (l.take k) = some mk) (h2 : replay m (l.take (k + 1)) = some mk') : does l[k] mk = some mk' := by
  rw [List.take_succ_eq_append_getElem hl, replay_snoc, h] at h2
  exact h2
theorem pick1_le (cs : List Int) (n : Nat) : (pick1 cs n).1 ≤ n := by
  cases cs with
  | nil => exact Nat.zero_le _
  | cons c r =>
    show c.toNat % (n + 1) ≤ n
    exact Nat.le_of_lt_succ (Nat.mod_lt c.toNat (Nat.succ_pos n))
end Go.Proofs.Ytmdecbockpgagaa

/- disk: the row of changes, read. -/
namespace Go.Proofs.Ytmdecbockpgagaa
open Go.RowKit Go.Maps Go.Proofs.YtmdecbockpgagaaW.PrintWords Go.Proofs.YtmdecbockpgagaaW.PrintMore
variable {B : Nat} {G : DG} {d : DS} {w w' : World}

theorem vOf_ptr (o : Option Nat) : ∃ a, vOf o = .pointer a := by
  cases o
  · exact ⟨_, rfl⟩
  · exact ⟨_, rfl⟩
theorem flat_get (g : Nat → Nat) (r : Nat) (hr : r < 3) : ∀ (l : List Chg) (k : Nat) (hk : k < l.length), (l.flatMap (chgV g))[k * 3 + r]? = (chgV g l[k])[r]?
  | [], k, hk => absurd hk (Nat.not_lt_zero _)
  | c :: l, 0, _ => by
    rw [List.flatMap_cons, List.getElem?_append_left (by show _ < 3; omega)]
    simp
  | c :: l, k + 1, hk => by
    rw [List.flatMap_cons, List.getElem?_append_right (by show 3 ≤ _; omega)]
    have := flat_get g r hr l k (by simpa using hk)
    rw [show (k + 1) * 3 + r - (chgV g c).length = k * 3 + r from by show (k + 1) * 3 + r - 3 = _; omega, this]
    rfl
theorem idx67 (g n cap k : Nat) (hk : k < n) (W : World) : (Instr.indexAt 60 (.slice (some ⟨g, 0, none⟩) n cap) (.int .i64 (k : Int))).run Try.prog W = .ok (.pointer (some ⟨g, k * 3, none⟩)) W := by
  have h2 : 0 ≤ (k : Int) ∧ (k : Int) < (n : Int) := ⟨by omega, by omega⟩
  have h3 : ({ block := g, off := 0, spot := none } : Addr).add (k * 3) = ⟨g, k * 3, none⟩ := add_plain _ _
  go_simp
theorem since_cells (h : AtC B G d w) {g : Nat} (hg : G.vs.ownBlock = some g) {k : Nat} (hk : k < d.since.length) :
    w.cell? ⟨g, k * 3, none⟩ = some (vOf (d.since[k].f.map G.blk)) ∧ w.cell? ⟨g, k * 3 + 1, none⟩ = some (.string (S d.since[k].src)) ∧ w.cell? ⟨g, k * 3 + 2, none⟩ = some (.string (S d.since[k].dst)) := by
  have hc := fun j u hj => World.ownsRow.cells h.since hg j u hj
  have f := fun r hr => flat_get G.blk r hr d.since k hk
  refine ⟨?_, ?_, ?_⟩
  · have := hc (k * 3 + 0) _ ((f 0 (by omega)).trans rfl)
    rwa [add_plain] at this
  · have := hc (k * 3 + 1) _ ((f 1 (by omega)).trans rfl)
    rwa [add_plain] at this
  · have := hc (k * 3 + 2) _ ((f 2 (by omega)).trans rfl)
    rwa [add_plain] at this
end Go.Proofs.Ytmdecbockpgagaa

/- disk: what a round of Crash's keeps. -/
namespace Go.Proofs.Ytmdecbockpgagaa
open Go.RowKit Go.Maps Go.Proofs.YtmdecbockpgagaaW.PrintWords Go.Proofs.YtmdecbockpgagaaW.PrintMore
variable {B : Nat} {G : DG} {d : DS} {w w' : World}

/-- A round that turns blocks of C's alone. -/
structure CKp (C F : Nat → Prop) (n1 : Nat) (X Y : World) : Prop where
  size : X.heap.size ≤ Y.heap.size
  fix : ∀ k, F k → Y.heap[k]? = X.heap[k]?
  same : ∀ (k : Nat) (o : Obj), X.heap[k]? = some o → (k < n1 ∨ o.isCells = true) → ¬ C k → Y.heap[k]? = some o
theorem CKp.refl (C F : Nat → Prop) (n1 : Nat) (X : World) : CKp C F n1 X X := ⟨Nat.le_refl _, fun _ _ => rfl, fun _ _ h _ _ => h⟩
theorem CKp.trans {C F : Nat → Prop} {n1 : Nat} {X Y Z : World} (h : CKp C F n1 X Y) (k : CKp C F n1 Y Z) : CKp C F n1 X Z :=
  ⟨Nat.le_trans h.size k.size, fun i hi => (k.fix i hi).trans (h.fix i hi), fun i o hi hc hn => k.same i o (h.same i o hi hc hn) hc hn⟩
theorem CKp.put {C F : Nat → Prop} {n1 : Nat} (W : World) (l : Nat) (o o' : Obj) (hl : n1 ≤ l) (ho : W.heap[l]? = some o) (hc : o.isCells = false) (hF : ∀ k, F k → k < n1) : CKp C F n1 W (W.putObj l o') := by
  refine ⟨by simp, fun k hk => World.putObj_heap_other (by have := hF k hk; omega), fun k o2 hk hc2 _ => ?_⟩
  by_cases e : k = l
  · subst e
    rw [ho] at hk
    cases hk
    rcases hc2 with h | h
    · omega
    · rw [hc] at h; cases h
  · exact (World.putObj_heap_other e).trans hk
/-- A block of cells that isn't C's. -/
theorem CKp.round {C F : Nat → Prop} {n1 : Nat} {X Y : World} {k : Nat} (h : ¬ C k) (hc : ∃ cs t fz, X.heap[k]? = some (.cells cs t fz)) (hk : CKp C F n1 X Y) : ¬ C k ∧ Y.heap[k]? = X.heap[k]? := by
  obtain ⟨cs, t, fz, hc⟩ := hc
  exact ⟨h, (hk.same k _ hc (.inr rfl) h).trans hc.symm⟩
end Go.Proofs.Ytmdecbockpgagaa

/- disk: what lies between two rounds of Crash's. -/
namespace Go.Proofs.Ytmdecbockpgagaa
open Go.RowKit Go.Maps Go.Proofs.YtmdecbockpgagaaW.PrintWords Go.Proofs.YtmdecbockpgagaaW.PrintMore
variable {B : Nat} {G : DG} {d : DS} {w w' : World}

theorem AtW.keep (h : AtW B G d w) (hk : ∀ k, k = G.p ∨ k = G.mn ∨ (∃ i, i < d.files.length ∧ G.blk i = k) ∨ (∃ i, i < d.files.length ∧ (G.row i).ownBlock = some k) → w'.heap[k]? = w.heap[k]?) : AtW B G d w' :=
  { cell := (hk _ (.inl rfl)).trans h.cell
    names := h.names.kept (hk _ (.inr (.inl rfl)))
    files := h.files.keep (fun i hi => hk _ (.inr (.inr (.inl ⟨i, hi, rfl⟩)))) (fun i _ hi hg => hk _ (.inr (.inr (.inr ⟨i, hi, hg⟩))))
    lo := h.lo }
/-- The iterator's own steps leave it. -/
theorem AtW.turned {b : Nat} (h : AtW B G d w) (hm : G.mn < b) (t : Turn b (fun _ => False) w w') : AtW B G d w' := by
  have hc : ∀ {k : Nat} {o : Obj}, w.heap[k]? = some o → (k < b ∨ o.isCells = true) → w'.heap[k]? = w.heap[k]? := fun hk hb => (t.same _ _ hk (fun e => e) hb).trans hk.symm
  refine h.keep fun k hk => ?_
  rcases hk with rfl | rfl | ⟨i, hi, rfl⟩ | ⟨i, hi, hk⟩
  · exact hc h.cell (.inr rfl)
  · obtain ⟨es, clock, hb⟩ := h.names.obj
    exact hc hb (.inl hm)
  · exact hc (h.files.file i _ (List.getElem?_eq_getElem hi)) (.inr rfl)
  · obtain ⟨cur, hb⟩ := own_obj (h.files.rows i _ (List.getElem?_eq_getElem hi)) hk
    exact hc hb (.inr rfl)
theorem Tr.turned {b : Nat} {X Y : World} {G' : DG} (h : Tr w G X G') (hb : w.heap.size ≤ b) (t : Turn b (fun _ => False) X Y) : Tr w G Y G' :=
  ⟨t.os.trans h.os, t.tape.trans h.tape, t.output.trans h.output, Nat.le_trans h.size t.size, fun k hk hn => by
    have h1 := h.block k hk hn
    have hl : k < X.heap.size := Nat.lt_of_lt_of_le hk h.size
    rw [← h1, Array.getElem?_eq_getElem hl]
    exact t.same k _ (Array.getElem?_eq_getElem hl) (fun e => e) (.inl (by omega)), h.p, h.foot⟩
theorem ChF.turned {b cb : Nat} {X Y : World} {cs : List Int} (h : ChF G X cb cs) (t : Turn b (fun _ => False) X Y) : ChF G Y cb cs := by
  obtain ⟨A, c, hb, hc, hby, hr, ha, hn⟩ := h
  refine ⟨A, c, t.boxed hb (fun e => e), hc, hby, ⟨hr.1, hr.2.1, fun h0 => ?_⟩, ha, hn⟩
  obtain ⟨ad, rfl, hcell⟩ := hr.2.2 h0
  refine ⟨ad, rfl, fun j hj => ?_⟩
  have h1 := hcell j hj
  have h1' := h1
  unfold World.cell? at h1'
  split at h1'
  · rename_i cs2 e2 f2 hx
    refine (World.cell?_of_block ?_).trans h1
    exact (t.same _ _ hx (fun e => e) (.inr rfl)).trans hx.symm
  · cases h1'
abbrev fnV (w : World) : Value := .func (.func 39) #[] #[.pointer (some ⟨w.heap.size, 0, none⟩)]
structure CS (B nb : Nat) (w : World) (G : DG) (d1 : DS) (mk : NM) (R : List Fl × List Int) (n : Nat) (X : World) (G' : DG) (fs : List Fl) (cs : List Int) : Prop where
  sh : G'.p = G.p ∧ G'.mn = G.fall.mn ∧ G'.mq = G.mq ∧ G'.vs = G.vs ∧ G'.bl = G.bl
  at_ : AtW B G' { d1 with files := fs } X
  tr : Tr w G X G'
  ch : ChF G' X w.heap.size cs
  fn : Boxed X (w.heap.size + 1) 70 (fnV w)
  it : Boxed X nb 24 (.pointer (some ⟨G.p, 0, none⟩))
  res : crashF fs (mk.drop n) cs = R
  len : fs.length = d1.files.length
  ok : ∀ f ∈ fs, f.b.length ≤ 400000 ∧ f.kept ≤ f.b.length
def CI (B nb : Nat) (w : World) (G : DG) (d1 : DS) (mk : NM) (R : List Fl × List Int) (pre : List (Nm × Nat)) (X : World) : Prop :=
  pre = mk.take pre.length ∧ ∃ G' fs cs, CS B nb w G d1 mk R pre.length X G' fs cs
theorem CI.turned {b nb : Nat} {d1 : DS} {mk : NM} {R : List Fl × List Int} {pre : List (Nm × Nat)} {X Y : World} (h : CI B nb w G d1 mk R pre X) (hw : w.heap.size ≤ b) (hm : G.mq < b) (t : Turn b (fun _ => False) X Y) : CI B nb w G d1 mk R pre Y := by
  obtain ⟨h1, G', fs, cs, c⟩ := h
  refine ⟨h1, G', fs, cs, { sh := c.sh, at_ := c.at_.turned (by rw [c.sh.2.1]; exact hm) t, tr := c.tr.turned hw t, ch := c.ch.turned t, fn := t.boxed c.fn (fun e => e), it := t.boxed c.it (fun e => e), res := c.res, len := c.len, ok := c.ok }⟩
/-- What a crash makes of one file. -/
def fellB (f : Fl) (a b : Nat) : List Int := (f.b.take (f.kept + a)).take ((f.b.take (f.kept + a)).length - b) ++ List.replicate (min b (f.b.take (f.kept + a)).length) 0
theorem crashF_step (fs : List Fl) (p : Nm × Nat) (ps : NM) (cs : List Int) (f : Fl) (hf : fs[p.2]? = some f) :
    crashF fs (p :: ps) cs = crashF (fs.set p.2 ⟨fellB f (pick1 cs (f.b.length - f.kept)).1 (pick1 (pick1 cs (f.b.length - f.kept)).2 (pick1 cs (f.b.length - f.kept)).1).1, (f.b.take (f.kept + (pick1 cs (f.b.length - f.kept)).1)).length⟩) ps (pick1 (pick1 cs (f.b.length - f.kept)).2 (pick1 cs (f.b.length - f.kept)).1).2 := by
  show crashF (fs.set p.2 _) ps _ = _
  rw [hf]
  rfl
theorem fellB_len (f : Fl) (a b : Nat) (hb : b ≤ (f.b.take (f.kept + a)).length) : (fellB f a b).length = (f.b.take (f.kept + a)).length := by
  unfold fellB
  rw [List.length_append, List.length_replicate, List.length_take]
  omega
end Go.Proofs.Ytmdecbockpgagaa

/- clear on the tail of an own row of bytes; a file turns where the kept names do not matter. -/
namespace Go.Proofs.Ytmdecbockpgagaa
open Go.RowKit Go.Maps Go.Proofs.YtmdecbockpgagaaW.PrintWords Go.Proofs.YtmdecbockpgagaaW.PrintMore
variable {B : Nat} {G : DG} {d : DS} {w w' : World}

theorem clear_own (W : World) {base : Nat} {v : Value} {xs : List Int} (h : OwnB W base v xs) (k : Nat) (hk : k ≤ xs.length) :
    ∃ A c A2 c2 W', v = .slice A xs.length c ∧ (∀ X : World, (Instr.slice 22 (.slice A xs.length c) (some (.int .i64 (k : Int))) none none).run Try.prog X = .ok (.slice A2 (xs.length - k) c2) X) ∧
      (∀ ty, (Builtin.clear_ #[22] ty #[.slice A2 (xs.length - k) c2]).run Try.prog W = .ok (.tuple #[]) W') ∧ OwnB W' base v (xs.take k ++ List.replicate (xs.length - k) 0) ∧ W.grownBy W' v.ownBlock := by
  obtain ⟨i, hi, hz0, hsz, hby⟩ := info_parts info8
  have hel : Try.prog.elem 22 = 5 := by simp [Program.elem, Try.underlying22]
  have hu : Try.prog.underlying 22 = some (.slice (Try.prog.elem 22)) := by rw [hel]; exact Try.underlying22
  have hsl : ∀ (X : World) (A : Option Addr) (c : Nat), (Instr.slice 22 (.slice A xs.length c) (some (.int .i64 (k : Int))) none none).run Try.prog X = .ok (.slice (if c = k then A else A.map (·.add k)) (xs.length - k) (c - k)) X := fun X A c => by
    have := run_slice_l (P := Try.prog) X 22 A xs.length c hu .i64 (k : Int) (by omega) (by omega)
    rw [hel] at this
    refine this.trans ?_
    simp [sizeOf, typeInfo, hi, hsz, sliced, Result.andThen]
  rcases h.2 with ⟨rfl, h0⟩ | ⟨g, cap, cur, rfl, hb, hg, hnc, hcm, hcs, htk⟩
  · have hx : xs = [] := List.eq_nil_of_length_eq_zero h0
    subst hx
    have hk0 : k = 0 := by simpa using hk
    subst hk0
    exact ⟨none, 0, none, 0, W, rfl, fun X => hsl X none 0, fun ty => by simp [Builtin.clear_, run_underlying Try.underlying22], h, World.grownBy.refl W _⟩
  · rcases Nat.eq_or_lt_of_le hk with he | hlt
    · refine ⟨some ⟨g, 0, none⟩, cap, _, _, W, rfl, fun X => hsl X _ _, fun ty => ?_, ?_, World.grownBy.refl W _⟩
      · rw [he, Nat.sub_self]
        by_cases hc : cap = xs.length
        · rw [if_pos hc]
          simp [Builtin.clear_, run_underlying Try.underlying22]
        · rw [if_neg hc]
          simp [Builtin.clear_, run_underlying Try.underlying22]
      · rw [he, Nat.sub_self, List.take_length, List.replicate_zero, List.append_nil]
        exact h
    · have hc : ¬ cap = k := by omega
      have hn : 0 < xs.length - k := by omega
      have hcell : ∀ j, j < xs.length - k → (W.cell? ⟨g, k + j, none⟩).isSome = true := fun j hj => by
        unfold World.cell?
        rw [hg]
        have : k + j < cur.size := by omega
        simp [this]
      have hfr : ∀ j, j < xs.length - k → W.frozen? ⟨g, k + j, none⟩ = false := fun j hj => by
        unfold World.frozen?
        rw [hg]
        simp
      have hrun : ∀ ty, _ := fun ty => Lib.run_clear_slice (P := Try.prog) W 22 5 ty (.int .u8 0) Try.underlying22 (fun w => by simp [zeroValue, typeInfo, hi, hz0]) rfl rfl g k (xs.length - k) (cap - k) hn hcell hfr
      refine ⟨some ⟨g, 0, none⟩, cap, some ⟨g, k, none⟩, cap - k, W.setCells g k (List.replicate (xs.length - k) (.int .u8 0)), rfl, fun X => ?_, hrun, ?_, ?_⟩
      · rw [hsl X _ _, if_neg hc]
        simp [add_plain]
      · obtain ⟨cur', h3, h4, h5⟩ := setCells_row (g := g) (e := 5) (List.replicate (xs.length - k) (.int .u8 0)) k W cur hg (by simp; omega)
        have hl : (xs.take k ++ List.replicate (xs.length - k) 0).length = xs.length := by simp; omega
        refine ⟨by rw [nums_length]; omega, .inr ⟨g, cap, cur', by rw [hl], hb, h3, by omega, hcm, by rw [h4, hcs], ?_⟩⟩
        rw [h5, hl]
        have h6 : cur.toList.take xs.length = nums .u8 xs := by simpa using htk
        have h7 : cur.toList.length = cur.size := Array.length_toList
        have h8 : (cur.toList.take k ++ List.replicate (xs.length - k) (Value.int .u8 0)).length = xs.length := by simp; omega
        rw [Nat.mul_one, List.take_left' h8]
        have h9 : cur.toList.take k = (nums .u8 xs).take k := by rw [← h6, List.take_take, Nat.min_eq_left hk]
        rw [h9]
        simp [nums]
      · obtain ⟨h1, h2, h3, h4⟩ := setCells_same g (List.replicate (xs.length - k) (.int .u8 0)) k W
        refine ⟨h1, h2, h3, by rw [h4]; exact Nat.le_refl _, fun j hj hne => setCells_far _ _ _ (fun e => hne (by rw [e]; rfl))⟩

theorem AtW.only (h : AtW B G d w) {cb : Nat} (ho : Only cb w w') (hc : ∃ v, Boxed w cb 22 v) : AtW B G d w' := by
  obtain ⟨v, hc⟩ := hc
  have hlt : ∀ {k : Nat} {o : Obj}, w.heap[k]? = some o → k < w.heap.size := fun h => (Array.getElem?_eq_some_iff.1 h).1
  refine h.keep fun k hk => ?_
  rcases hk with rfl | rfl | ⟨i, hi, rfl⟩ | ⟨i, hi, hk⟩
  · exact ho.block _ (hlt h.cell) (obj_ne h.cell hc (by simp))
  · obtain ⟨es, clock, hb⟩ := h.names.obj
    exact ho.block _ (hlt hb) (obj_ne hb hc (by simp))
  · have hb := h.files.file i _ (List.getElem?_eq_getElem hi)
    exact ho.block _ (hlt hb) (obj_ne hb hc (by simp))
  · obtain ⟨cur, hb⟩ := own_obj (h.files.rows i _ (List.getElem?_eq_getElem hi)) hk
    exact ho.block _ (hlt hb) (obj_ne hb hc (by simp))
theorem AtW.below (h : AtW B G d w) (hb : Below w.heap.size w w') : AtW B G d w' := by
  have hlt : ∀ {k : Nat} {o : Obj}, w.heap[k]? = some o → k < w.heap.size := fun h => (Array.getElem?_eq_some_iff.1 h).1
  refine h.keep fun k hk => hb.block k ?_
  rcases hk with rfl | rfl | ⟨i, hi, rfl⟩ | ⟨i, hi, hk⟩
  · exact hlt h.cell
  · obtain ⟨es, clock, hb⟩ := h.names.obj
    exact hlt hb
  · exact hlt (h.files.file i _ (List.getElem?_eq_getElem hi))
  · obtain ⟨cur, hb⟩ := own_obj (h.files.rows i _ (List.getElem?_eq_getElem hi)) hk
    exact hlt hb
end Go.Proofs.Ytmdecbockpgagaa

/- disk: a round of Crash's. -/
namespace Go.Proofs.Ytmdecbockpgagaa
open Go.RowKit Go.Maps Go.Proofs.YtmdecbockpgagaaW.PrintWords Go.Proofs.YtmdecbockpgagaaW.PrintMore
variable {B : Nat} {G : DG} {d : DS} {w w' : World}

/-- Nothing but the choices' box and one file's block has turned. -/
structure RD (cb bi : Nat) (X W : World) : Prop where
  os : W.os = X.os
  tape : W.tape = X.tape
  output : W.output = X.output
  size : X.heap.size ≤ W.heap.size
  oth : ∀ k, k < X.heap.size → k ≠ cb → k ≠ bi → W.heap[k]? = X.heap[k]?
section
variable {cb bi : Nat} {X W W' : World}
theorem RD.below (h : RD cb bi X W) (hb : Below W.heap.size W W') : RD cb bi X W' :=
  ⟨hb.os.trans h.os, hb.tape.trans h.tape, hb.output.trans h.output, Nat.le_trans h.size hb.size, fun k hk h1 h2 => (hb.block k (Nat.lt_of_lt_of_le hk h.size)).trans (h.oth k hk h1 h2)⟩
theorem RD.of_below (hb : Below X.heap.size X W) : RD cb bi X W := ⟨hb.os, hb.tape, hb.output, hb.size, fun k hk _ _ => hb.block k hk⟩
theorem RD.only (h : RD cb bi X W) (hb : Only cb W W') : RD cb bi X W' :=
  ⟨hb.os.trans h.os, hb.tape.trans h.tape, hb.output.trans h.output, Nat.le_trans h.size hb.size, fun k hk h1 h2 => (hb.block k (Nat.lt_of_lt_of_le hk h.size) h1).trans (h.oth k hk h1 h2)⟩
theorem RD.set (h : RD cb bi X W) (j : Nat) (v : Value) : RD cb bi X (W.setCell ⟨bi, j, none⟩ v) :=
  ⟨h.os, h.tape, h.output, Nat.le_trans h.size (by unfold World.setCell; simp), fun k hk h1 h2 => (Below.heap_setCell W ⟨bi, j, none⟩ v k h2).trans (h.oth k hk h1 h2)⟩
theorem RD.grown (h : RD cb bi X W) {row : Option Nat} (hg : W.grownBy W' row) (hr : ∀ g, row = some g → X.heap.size ≤ g) : RD cb bi X W' :=
  ⟨hg.os.trans h.os, hg.tape.trans h.tape, hg.output.trans h.output, Nat.le_trans h.size hg.size, fun k hk h1 h2 => (hg.block k (Nat.lt_of_lt_of_le hk h.size) (fun e => by have := hr k e.symm; omega)).trans (h.oth k hk h1 h2)⟩
end

/-- The row of file i is a new one. -/
theorem FTurn.of_clone (h : AtW B G d w) {i : Nat} {f : Fl} (hf : d.files[i]? = some f) {w4 : World} {v' : Value} {b' : List Int} (ho : OwnB w4 w.heap.size v' b') (hb : Below w.heap.size w w4) (hB : B ≤ w.heap.size) (hby : By b') :
    FTurn w G i v' b' f.kept B (w4.setCell ⟨G.blk i, 0, none⟩ v') := by
  have hi := (List.getElem?_eq_some_iff.1 hf).1
  have hother : ∀ k, G.blk i ≠ k → (w4.setCell ⟨G.blk i, 0, none⟩ v').heap[k]? = w4.heap[k]? := fun k hk => Below.heap_setCell w4 ⟨G.blk i, 0, none⟩ v' k (Ne.symm hk)
  have hfi := h.files.file i f hf
  have hc : w4.heap[G.blk i]? = some (.cells #[G.row i, .int .i64 (f.kept : Int)] 79 (0, 0)) :=
    (hb.block _ (Array.getElem?_eq_some_iff.1 hfi).1).trans hfi
  refine ⟨hb.os, hb.tape, hb.output, by unfold World.setCell; simp; exact hb.size, fun k hk h1 h2 => (hother k h1).trans (hb.block k hk), ?_, own_weaken (own_keep ho (fun g hg => hother g ?_)) hB, hby, fun g hg => .inr (World.ownsRow.lt ho g hg).1⟩
  · unfold World.setCell
    simp only [Array.getElem?_modify, if_pos, hc]
    rfl
  · obtain ⟨cur, hb2⟩ := own_obj ho hg
    exact obj_ne hc hb2 (by simp)
/-- The row of file i has turned. -/
theorem FTurn.of_clear (h : AtW B G d w) {i : Nat} {f : Fl} (hf : d.files[i]? = some f) {w4 : World} {b' : List Int} (ho : OwnB w4 B (G.row i) b') (hg : w.grownBy w4 (G.row i).ownBlock) (hby : By b') (k : Nat) :
    FTurn w G i (G.row i) b' k B (w4.setCell ⟨G.blk i, 1, none⟩ (.int .i64 (k : Int))) := by
  have hi := (List.getElem?_eq_some_iff.1 hf).1
  have hother : ∀ k', G.blk i ≠ k' → (w4.setCell ⟨G.blk i, 1, none⟩ (.int .i64 (k : Int))).heap[k']? = w4.heap[k']? := fun k' hk => Below.heap_setCell w4 ⟨G.blk i, 1, none⟩ _ k' (Ne.symm hk)
  have hfi := h.files.file i f hf
  have hc : w4.heap[G.blk i]? = some (.cells #[G.row i, .int .i64 (f.kept : Int)] 79 (0, 0)) :=
    (hg.block _ (Array.getElem?_eq_some_iff.1 hfi).1 (fun e => FA.row_blk h.files hi hi e.symm rfl)).trans hfi
  refine ⟨hg.os, hg.tape, hg.output, by unfold World.setCell; simp; exact hg.size, fun k hk h1 h2 => (hother k h1).trans (hg.block k hk (fun e => h2 e.symm)), ?_, own_keep ho (fun g hg => hother g ?_), hby, fun g hg => .inl hg⟩
  · unfold World.setCell
    simp only [Array.getElem?_modify, if_pos, hc]
    rfl
  · obtain ⟨cur, hb2⟩ := own_obj ho hg
    exact obj_ne hc hb2 (by simp)
abbrev rdC (w : World) (G : DG) (k : Nat) : Prop := k = w.heap.size ∨ ∃ i, i < G.bl.length ∧ G.blk i = k
theorem CI.next {nb n1 : Nat} {d1 : DS} {mk : NM} {R : List Fl × List Int} {pre : List (Nm × Nat)} {x : Nm × Nat} {X W : World} {G1 G3 : DG} {fs : List Fl} {cs2 cs3 cs4 : List Int} {f : Fl} {a b : Nat} {v' : Value}
    (c : CS B nb w G d1 mk R pre.length X G1 fs cs2) (hpre : pre = mk.take pre.length) (hg : mk[pre.length]? = some x) (hf : fs[x.2]? = some f) (ha : pick1 cs2 (f.b.length - f.kept) = (a, cs3)) (hb : pick1 cs3 a = (b, cs4))
    (hrd : RD w.heap.size (G.blk x.2) X W) (hat : AtW B G3 { d1 with files := fs.set x.2 ⟨fellB f a b, (f.b.take (f.kept + a)).length⟩ } W)
    (hsh : G3 = { G1 with vl := (G1.vl.set x.2 v').set x.2 v' }) (hv' : ∀ g, v'.ownBlock = some g → X.heap.size ≤ g) (hch : ChF G3 W w.heap.size cs4) :
    KeepsOthers X W ∧ CKp (rdC w G) (fun k => k = nb ∨ k = G.p ∨ k = G.mq) n1 X W ∧ CI B nb w G d1 mk R (pre ++ [x]) W := by
  have hi : x.2 < fs.length := (List.getElem?_eq_some_iff.1 hf).1
  have hbl : G1.bl.length = fs.length := c.at_.files.nb
  have hfi : X.heap[G1.blk x.2]? = some (.cells #[G1.row x.2, .int .i64 (f.kept : Int)] 79 (0, 0)) := c.at_.files.file x.2 f hf
  have hbk : G1.blk x.2 = G.blk x.2 := by unfold DG.blk; rw [c.sh.2.2.2.2]
  rw [hbk] at hfi
  obtain ⟨Ac, cc, hbox, -⟩ := c.ch
  have hlt : ∀ {k : Nat} {o : Obj}, X.heap[k]? = some o → k < X.heap.size := fun h => (Array.getElem?_eq_some_iff.1 h).1
  have hwx : w.heap.size ≤ X.heap.size := c.tr.size
  have keep : ∀ {k : Nat} {o : Obj}, X.heap[k]? = some o → k ≠ w.heap.size → k ≠ G.blk x.2 → W.heap[k]? = X.heap[k]? := fun h h1 h2 => hrd.oth _ (hlt h) h1 h2
  have hik : W.heap[nb]? = X.heap[nb]? := keep c.it (obj_ne c.it hbox (by simp)) (obj_ne c.it hfi (by simp))
  have hpk : W.heap[G.p]? = X.heap[G.p]? := by
    rw [← c.sh.1]
    exact keep c.at_.cell (obj_ne c.at_.cell hbox (by simp)) (obj_ne c.at_.cell hfi (by simp))
  have hmk : W.heap[G.mq]? = X.heap[G.mq]? := by
    obtain ⟨es, clock, hb2⟩ := c.at_.names.obj
    rw [c.sh.2.1] at hb2
    exact keep hb2 (obj_ne hb2 hbox (by simp)) (obj_ne hb2 hfi (by simp))
  have hfk : W.heap[w.heap.size + 1]? = X.heap[w.heap.size + 1]? := keep c.fn (by omega) (obj_ne c.fn hfi (by simp))
  have hCb : ∀ k, ¬ rdC w G k → k ≠ w.heap.size ∧ k ≠ G.blk x.2 := fun k hk => ⟨fun e => hk (.inl e), fun e => hk (.inr ⟨x.2, by rw [← c.sh.2.2.2.2, hbl]; exact hi, e.symm⟩)⟩
  refine ⟨⟨hrd.size, fun k o hk ho => ?_⟩, ⟨hrd.size, fun k hk => ?_, fun k o hk _ hn => ?_⟩, ?_, G3, _, cs4, { sh := ?_, at_ := hat, tr := ?_, ch := hch, fn := hfk.trans c.fn, it := hik.trans c.it, res := ?_, len := ?_, ok := ?_ }⟩
  · refine (keep hk ?_ ?_).trans hk
    · rintro rfl
      rw [hbox] at hk
      cases hk
      cases ho
    · rintro rfl
      rw [hfi] at hk
      cases hk
      cases ho
  · rcases hk with rfl | rfl | rfl
    · exact hik
    · exact hpk
    · exact hmk
  · exact (keep hk (hCb k hn).1 (hCb k hn).2).trans hk
  · rw [List.length_append, List.length_singleton]
    have hl : pre.length < mk.length := (List.getElem?_eq_some_iff.1 hg).1
    rw [List.take_succ_eq_append_getElem hl, ← hpre]
    congr 1
    rw [(List.getElem?_eq_some_iff.1 hg).2]
  · rw [hsh]
    exact c.sh
  · refine ⟨hrd.os.trans c.tr.os, hrd.tape.trans c.tr.tape, hrd.output.trans c.tr.output, Nat.le_trans hwx hrd.size, fun k hk hn => ?_, by rw [hsh]; exact c.tr.p, fun k hk hh => ?_⟩
    · refine (hrd.oth k (by omega) (by omega) (fun e => hn ?_)).trans (c.tr.block k hk hn)
      exact .inr (.inr (.inr (.inr (.inl ⟨x.2, by rw [← c.sh.2.2.2.2, hbl]; exact hi, e.symm⟩))))
    · rw [hsh] at hh
      refine c.tr.foot k hk ?_
      rcases hh with hh | hh | hh | hh | hh | ⟨j, hj, hh⟩
      · exact .inl hh
      · exact .inr (.inl hh)
      · exact .inr (.inr (.inl hh))
      · exact .inr (.inr (.inr (.inl hh)))
      · exact .inr (.inr (.inr (.inr (.inl hh))))
      · have hj' : j < ((G1.vl.set x.2 v').set x.2 v').length := hj
        have hh' : (((G1.vl.set x.2 v').set x.2 v').getD j (.pointer none)).ownBlock = some k := hh
        rw [List.set_set] at hh' hj'
        rw [List.length_set] at hj'
        by_cases e : x.2 = j
        · subst e
          rw [getD_set_same _ _ _ hj'] at hh'
          have := hv' k hh'
          omega
        · rw [getD_set_other _ _ _ e] at hh'
          exact .inr (.inr (.inr (.inr (.inr ⟨j, hj', hh'⟩))))
  · have hl : pre.length < mk.length := (List.getElem?_eq_some_iff.1 hg).1
    have h1 := c.res
    rw [List.drop_eq_getElem_cons hl, (List.getElem?_eq_some_iff.1 hg).2, crashF_step fs x _ _ f hf, ha] at h1
    simp only [hb] at h1
    rw [List.length_append, List.length_singleton]
    exact h1
  · rw [List.length_set]; exact c.len
  · intro g hgm
    have h0 := c.ok f (List.mem_of_getElem? hf)
    rcases List.mem_or_eq_of_mem_set hgm with hgm | rfl
    · exact c.ok g hgm
    · have hb2 : b ≤ a := by have := pick1_le cs3 a; rw [hb] at this; exact this
      have ha2 : a ≤ f.b.length - f.kept := by have := pick1_le cs2 (f.b.length - f.kept); rw [ha] at this; exact this
      have hl : (f.b.take (f.kept + a)).length = f.kept + a := by rw [List.length_take]; omega
      have hbn : b ≤ (f.b.take (f.kept + a)).length := by omega
      have := fellB_len f a b hbn
      show (fellB f a b).length ≤ 400000 ∧ (f.b.take (f.kept + a)).length ≤ (fellB f a b).length
      omega
theorem replay_lt {n : Nat} : ∀ {l : List Chg} {m m' : NM}, replay m l = some m' → (∀ p ∈ m, p.2 < n) → (∀ c ∈ l, ∀ i, c.f = some i → i < n) → ∀ p ∈ m', p.2 < n
  | [], m, m', h, hm, _ => by
    cases h
    exact hm
  | c :: l, m, m', h, hm, hl => by
    have h2 : (does c m).bind (fun m1 => replay m1 l) = some m' := h
    cases hd : does c m with
    | none => rw [hd] at h2; cases h2
    | some m1 =>
      rw [hd] at h2
      exact replay_lt h2 (does_mem hd hm (hl c List.mem_cons_self)) (fun c' hc' => hl c' (List.mem_cons_of_mem _ hc'))

/-- What is held until operation n has come up. -/
def LateS (F : World → Prop) (n : Nat) (L : Array Bool) (w : World) : Prop := F w ∨ L.getD n true = true
theorem LateS.set {F : World → Prop} {n : Nat} (i : Nat) (h : i ≠ n) (L : Array Bool) (w : World) : LateS F n L w ↔ LateS F n (L.setIfInBounds i true) w := by
  unfold LateS
  rw [getD_set_ne true h]
theorem LateS.get {F : World → Prop} {n : Nat} {L : Array Bool} {w : World} (h : LateS F n L w) (hn : L.getD n true = false) : F w := by
  rcases h with h | h
  · exact h
  · rw [hn] at h; cases h
theorem wp_of_step {P : Program} {W : World} {o : Oper} {a : Act} {K : Act → World → Prop} {Q : Exit → Act → World → Prop} {ops : Array Oper} (hw : Region.wanted o (yielded ops a.tmps) = true) (h : if Region.wanted o (yielded ops a.tmps) = true then Oper.wp P o a W K Q else True) : Oper.wp P o a W K Q := by
  rwa [if_pos hw] at h
theorem clear_at (W : World) {base m c : Nat} {A : Option Addr} {xs : List Int} (h : OwnB W base (.slice A m c) xs) (hl : xs.length = m) (k k2 : Nat) (hk : k + k2 = m) :
    ∃ A2 c2 W', (∀ X : World, (Instr.slice 22 (.slice A m c) (some (.int .i64 (k : Int))) none none).run Try.prog X = .ok (.slice A2 k2 c2) X) ∧
      (∀ ty, (Builtin.clear_ #[22] ty #[.slice A2 k2 c2]).run Try.prog W = .ok (.tuple #[]) W') ∧ OwnB W' base (.slice A m c) (xs.take k ++ List.replicate k2 0) ∧ W.grownBy W' (Value.slice A m c).ownBlock := by
  obtain ⟨A1, c1, A2, c2, W', he, h1, h2, h3, h4⟩ := clear_own W h k (by omega)
  injection he with e1 e2 e3
  subst e1
  subst e3
  have e4 : xs.length - k = k2 := by omega
  rw [e4] at h1 h2 h3
  rw [hl] at h1
  exact ⟨A2, c2, W', h1, h2, h3, h4⟩
theorem slice_head8 (A : Option Addr) (n c m : Nat) (hc : m ≤ c) (W : World) : (Instr.slice 22 (.slice A n c) none (some (.int .i64 (m : Int))) none).run Try.prog W = .ok (.slice A m c) W := by
  have h1 : 0 ≤ (m : Int) ∧ (m : Int) ≤ (c : Int) := ⟨by omega, by omega⟩
  go_simp
theorem rd_take {W : World} {A : Option Addr} {n c : Nat} {xs : List Int} (h : RdB W (.slice A n c) xs) (m : Nat) (hm : m ≤ n) : RdB W (.slice A m c) (xs.take m) := by
  obtain ⟨A1, c1, he, hc, hr⟩ := h
  injection he with e1 e2 e3
  subst e1
  subst e2
  subst e3
  have hl : (xs.take m).length = m := by rw [List.length_take]; omega
  exact ⟨A, c, by rw [hl], by omega, by rw [hl]; exact hr.take_ m hm⟩
theorem Tr.turnW (h : AtW B G d w) {i : Nat} (hi : i < d.files.length) {v' : Value} {b' : List Int} {k' : Nat} (t : FTurn w G i v' b' k' B w') : Tr w G w' { G with vl := G.vl.set i v' } := by
  have hlen : G.vl.length = d.files.length := h.files.nv
  have hblk : G.has (G.blk i) := .inr (.inr (.inr (.inr (.inl ⟨i, by rw [h.files.nb]; exact hi, rfl⟩))))
  have hrow : ∀ {g : Nat}, (G.row i).ownBlock = some g → G.has g := fun hg => .inr (.inr (.inr (.inr (.inr ⟨i, by rw [hlen]; exact hi, hg⟩))))
  refine ⟨t.os, t.tape, t.output, t.size, fun k hk hn => t.other k hk (fun e => hn (e ▸ hblk)) (fun e => hn (hrow e)), rfl, fun k hk hh => ?_⟩
  rcases hh with hh | hh | hh | hh | hh | ⟨j, hj, hh⟩
  · exact .inl hh
  · exact .inr (.inl hh)
  · exact .inr (.inr (.inl hh))
  · exact .inr (.inr (.inr (.inl hh)))
  · exact .inr (.inr (.inr (.inr (.inl hh))))
  · have hj' : j < (G.vl.set i v').length := hj
    have hh' : ((G.vl.set i v').getD j (.pointer none)).ownBlock = some k := hh
    rw [List.length_set] at hj'
    by_cases e : i = j
    · subst e
      rw [getD_set_same _ _ _ hj'] at hh'
      rcases t.at_ k hh' with ht | hxs
      · exact hrow ht
      · omega
    · rw [getD_set_other _ _ _ e] at hh'
      exact .inr (.inr (.inr (.inr (.inr ⟨j, hj', hh'⟩))))
theorem fellB_eq (f : Fl) (a b m k1 : Nat) (hm : f.kept + a = m) (hl : m ≤ f.b.length) (hk : k1 + b = m) : (f.b.take m).take k1 ++ List.replicate b 0 = fellB f a b := by
  unfold fellB
  have h1 : (f.b.take m).length = m := by rw [List.length_take]; omega
  rw [hm, h1, Nat.min_eq_left (by omega), show m - b = k1 by omega]
theorem by_take {xs : List Int} (h : By xs) (m : Nat) : By (xs.take m) := fun x hx => h x (List.mem_of_mem_take hx)
theorem by_zeros (n : Nat) : By (List.replicate n 0) := fun x hx => by
  rw [List.eq_of_mem_replicate hx]
  omega
end Go.Proofs.Ytmdecbockpgagaa
