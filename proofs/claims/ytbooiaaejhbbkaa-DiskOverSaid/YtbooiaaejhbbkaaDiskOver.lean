import Derived.Test.YtbooiaaejhbbkaaDiskKeeping
/- DiskOver: a file renamed onto another one takes its place, or leaves it: the plain part. -/
namespace Go.Proofs.Ytbooiaaejhbbkaa
open Go.RowKit Go.Maps Go.Proofs.YtbooiaaejhbbkaaW.PrintWords Go.Proofs.YtbooiaaejhbbkaaW.PrintMore

def mN : NM := [([109], 0)]
def oN : NM := [([109], 0), ([110], 1)]
def pN : NM := [([109], 1)]
/-- Ahead of the second file; with it; behind the renaming. -/
def od1 (K : NM) (C : List Chg) (st : Nat) (f : Fl) : DS := ⟨1000, mN, K, C, (st : Int), 0, 0, [f]⟩
def od2 (st : Nat) (f g : Fl) : DS := ⟨1000, oN, mN, [⟨some 1, [], [110]⟩], (st : Int), 0, 0, [f, g]⟩
def od3 (K : NM) (C : List Chg) (st : Nat) (f g : Fl) : DS := ⟨1000, pN, K, C, (st : Int), 0, 0, [f, g]⟩
def oC : List Chg := [⟨some 1, [], [110]⟩, ⟨none, [110], [109]⟩]
theorem od_new : (newD 1000).create [109] = (0, od1 [] [⟨some 0, [], [109]⟩] 1 ⟨[], 0⟩) := rfl
theorem od1_open (K : NM) (C : List Chg) (st : Nat) (f : Fl) : (od1 K C st f).tick.open_ [109] [] = 0 :=
  open_ok (i := 0) (code_ok rfl (show ¬ ((st : Int) + 1 = 0) by omega) (by decide +kernel)) rfl
theorem od1_append (K : NM) (C : List Chg) (st : Nat) (v : List Int) (h : v.length ≤ 200) : (od1 K C st ⟨[], 0⟩).append [109] v = (0, od1 K C (st + 1) ⟨v, 0⟩) := by
  rw [append_yes (od1 K C st ⟨[], 0⟩) [109] v 0 ⟨[], 0⟩ (od1_open K C st _) rfl rfl (by
    rw [show (od1 K C st ⟨[], 0⟩).used = 0 from rfl, show (od1 K C st ⟨[], 0⟩).quota = 1000 from rfl]
    dsimp only [List.length_nil]
    omega)]
  rfl
theorem od1_sync (K : NM) (C : List Chg) (st : Nat) (u : List Int) (kp : Nat) : (od1 K C st ⟨u, kp⟩).sync [109] = (0, od1 K C (st + 1) ⟨u, u.length⟩) := by
  rw [sync_yes (od1 K C st ⟨u, kp⟩) [109] 0 ⟨u, kp⟩ (od1_open K C st _) rfl rfl]
  rfl
theorem od1_syncDir (K : NM) (C : List Chg) (st : Nat) (f : Fl) : (od1 K C st f).syncDir = (0, od1 mN [] (st + 1) f) := by
  have hc : (od1 K C st f).tick.code [] = 0 := code_ok rfl (show ¬ ((st : Int) + 1 = 0) by omega) rfl
  unfold DS.syncDir
  dsimp only
  rw [if_neg (by rw [hc]; decide)]
  rfl
theorem od1_create (st : Nat) (f : Fl) : (od1 mN [] st f).create [110] = (0, od2 (st + 1) f ⟨[], 0⟩) := by
  rw [create_done (d := od1 mN [] st f) (s := [110]) rfl (show ¬ ((st : Int) + 1 = 0) by omega) (by decide +kernel) (show mN.length < 200 by decide)]
  rfl
theorem od2_open (st : Nat) (f g : Fl) : (od2 st f g).tick.open_ [110] [] = 0 :=
  open_ok (i := 1) (code_ok rfl (show ¬ ((st : Int) + 1 = 0) by omega) (by decide +kernel)) rfl
theorem od2_append (st : Nat) (f : Fl) (v : List Int) (hf : f.b.length ≤ 200) (h : v.length ≤ 200) : (od2 st f ⟨[], 0⟩).append [110] v = (0, od2 (st + 1) f ⟨v, 0⟩) := by
  have hu : (od2 st f ⟨[], 0⟩).used = f.b.length := by
    show [f.b.length, ([] : List Int).length].sum = _
    simp
  rw [append_yes (od2 st f ⟨[], 0⟩) [110] v 1 ⟨[], 0⟩ (od2_open st f _) rfl rfl (by
    rw [hu, show (od2 st f ⟨[], 0⟩).quota = 1000 from rfl]
    dsimp only [List.length_nil]
    omega)]
  rfl
theorem od2_sync (st : Nat) (f : Fl) (u : List Int) (kp : Nat) : (od2 st f ⟨u, kp⟩).sync [110] = (0, od2 (st + 1) f ⟨u, u.length⟩) := by
  rw [sync_yes (od2 st f ⟨u, kp⟩) [110] 1 ⟨u, kp⟩ (od2_open st f _) rfl rfl]
  rfl
theorem od2_rename (st : Nat) (f g : Fl) : (od2 st f g).rename [110] [109] = (0, od3 mN oC (st + 1) f g) := by
  have ho : (od2 st f g).tick.open_ [110] [[109]] = 0 := open_ok (i := 1) (code_ok rfl (show ¬ ((st : Int) + 1 = 0) by omega) (by decide +kernel)) rfl
  unfold DS.rename
  dsimp only
  rw [ho, if_neg (by decide), if_neg (by decide)]
  rfl
theorem od3_syncDir (K : NM) (C : List Chg) (st : Nat) (f g : Fl) : (od3 K C st f g).syncDir = (0, od3 pN [] (st + 1) f g) := by
  have hc : (od3 K C st f g).tick.code [] = 0 := code_ok rfl (show ¬ ((st : Int) + 1 = 0) by omega) rfl
  unfold DS.syncDir
  dsimp only
  rw [if_neg (by rw [hc]; decide)]
  rfl
theorem od3_read (K : NM) (C : List Chg) (st : Nat) (f g : Fl) : (od3 K C st f g).read [109] = (0, g.b) := rfl
theorem od3_list (K : NM) (C : List Chg) (st : Nat) (f g : Fl) : (od3 K C st f g).list = [[109]] := rfl
theorem od3_used (K : NM) (C : List Chg) (st : Nat) (f g : Fl) : (od3 K C st f g).usedOut = g.b.length := by
  show [g.b.length].sum = _
  simp
/-- A file that was kept whole stays. -/
theorem crash_whole (fs : List Fl) (p : Nm × Nat) (ps : NM) (cs : List Int) (b : List Int) (hf : fs[p.2]? = some ⟨b, b.length⟩) : ∃ cs', crashF fs (p :: ps) cs = crashF fs ps cs' := by
  have h := crashF_step fs p ps cs ⟨b, b.length⟩ hf
  have h0 : (⟨b, b.length⟩ : Fl).b.length - (⟨b, b.length⟩ : Fl).kept = 0 := by dsimp only; omega
  rw [h0] at h
  have hz : ∀ cs, (pick1 cs 0).1 = 0 := fun cs => Nat.le_zero.1 (pick1_le cs 0)
  rw [hz cs] at h
  rw [hz] at h
  refine ⟨(pick1 (pick1 cs 0).2 0).2, h.trans ?_⟩
  have e1 : fellB ⟨b, b.length⟩ 0 0 = b := by
    unfold fellB
    simp
  have e2 : (b.take (b.length + 0)).length = b.length := by simp
  dsimp only
  rw [e1, e2]
  have e3 : fs.set p.2 ⟨b, b.length⟩ = fs := by
    apply List.ext_getElem?
    intro i
    by_cases hi : p.2 = i
    · rw [← hi, List.getElem?_set_self (List.getElem?_eq_some_iff.1 hf).1, hf]
    · rw [List.getElem?_set_ne hi]
  rw [e3]
theorem fell_one (g : Fl) (cs : List Int) (hk : g.kept ≤ g.b.length) :
    (fellB g (pick1 cs (g.b.length - g.kept)).1 (pick1 (pick1 cs (g.b.length - g.kept)).2 (pick1 cs (g.b.length - g.kept)).1).1).length ≤ g.b.length ∧
    (g.kept = g.b.length → fellB g (pick1 cs (g.b.length - g.kept)).1 (pick1 (pick1 cs (g.b.length - g.kept)).2 (pick1 cs (g.b.length - g.kept)).1).1 = g.b) := by
  have ha := pick1_le cs (g.b.length - g.kept)
  have hb := pick1_le (pick1 cs (g.b.length - g.kept)).2 (pick1 cs (g.b.length - g.kept)).1
  constructor
  · rw [fellB_fallen g _ _ (by omega) hb, fallen_length _ _ _ (by omega)]
    omega
  · intro he
    have h1 : (pick1 cs (g.b.length - g.kept)).1 = 0 := by omega
    have h2 : (pick1 (pick1 cs (g.b.length - g.kept)).2 (pick1 cs (g.b.length - g.kept)).1).1 = 0 := by omega
    rw [h2, h1]
    unfold fellB
    simp [he]
theorem od_crash (K : NM) (C : List Chg) (st : Nat) (a b : List Int) (kp : Nat) (cs : List Int) (dr : Bool) (hk : kp ≤ b.length) (hK : (K = pN ∧ C = [] ∧ dr = true) ∨ (K = mN ∧ C = oC ∧ dr = false)) :
    ∃ x, ((od3 K C st ⟨a, a.length⟩ ⟨b, kp⟩).crash cs).read [109] = (0, x) ∧ ((x = a ∧ dr = false) ∨ (x.length ≤ b.length ∧ (kp = b.length → x = b))) := by
  have rd : ∀ (d : DS) (fs : List Fl) (i : Nat) (f : Fl), d.off = false → mlk d.names [109] = some i → d.files = fs → fs[i]? = some f → d.read [109] = (0, f.b) := fun d fs i f ho hm hf hi => by
    unfold DS.read
    rw [ho, if_neg (by decide), hm]
    show (0, bytesIn d i) = _
    unfold bytesIn
    rw [hf, hi]
    rfl
  have new_ : ∀ cs', ∃ x, ((crashF [⟨a, a.length⟩, ⟨b, kp⟩] pN cs').1[1]?).map Fl.b = some x ∧ x.length ≤ b.length ∧ (kp = b.length → x = b) := fun cs' => by
    have h := crashF_step [⟨a, a.length⟩, ⟨b, kp⟩] ([109], 1) [] cs' ⟨b, kp⟩ rfl
    obtain ⟨h1, h2⟩ := fell_one ⟨b, kp⟩ cs' hk
    refine ⟨_, ?_, h1, h2⟩
    rw [show crashF [⟨a, a.length⟩, ⟨b, kp⟩] pN cs' = _ from h]
    rfl
  have yes : ∀ (d : DS) cs', d.off = false → d.names = pN → d.files = (crashF [⟨a, a.length⟩, ⟨b, kp⟩] pN cs').1 → ∃ x, d.read [109] = (0, x) ∧ ((x = a ∧ dr = false) ∨ (x.length ≤ b.length ∧ (kp = b.length → x = b))) := fun d cs' ho hn hf => by
    obtain ⟨x, hx, h1, h2⟩ := new_ cs'
    obtain ⟨f, hfi, hfb⟩ := Option.map_eq_some_iff.1 hx
    exact ⟨x, by rw [rd d _ 1 f ho (by rw [hn]; rfl) hf hfi, hfb], .inr ⟨h1, h2⟩⟩
  rcases hK with ⟨rfl, rfl, rfl⟩ | ⟨rfl, rfl, rfl⟩
  · exact yes _ (pick1 cs 0).2 rfl (by
      show (replay pN (([] : List Chg).take (pick1 cs 0).1)).getD [] = pN
      rw [List.take_nil]
      rfl) (by
      show (crashF [⟨a, a.length⟩, ⟨b, kp⟩] ((replay pN (([] : List Chg).take (pick1 cs 0).1)).getD []) (pick1 cs 0).2).1 = _
      rw [List.take_nil]
      rfl)
  · have hp := pick1_le cs 2
    obtain ⟨k, hk2⟩ : ∃ k, (pick1 cs 2).1 = k := ⟨_, rfl⟩
    rw [hk2] at hp
    have hn : ((od3 mN oC st ⟨a, a.length⟩ ⟨b, kp⟩).crash cs).names = (replay mN (oC.take k)).getD [] := by
      rw [← hk2]
      rfl
    have hf : ((od3 mN oC st ⟨a, a.length⟩ ⟨b, kp⟩).crash cs).files = (crashF [⟨a, a.length⟩, ⟨b, kp⟩] ((replay mN (oC.take k)).getD []) (pick1 cs 2).2).1 := by
      rw [← hk2]
      rfl
    have hk3 : k = 0 ∨ k = 1 ∨ k = 2 := by omega
    rcases hk3 with rfl | rfl | rfl
    · obtain ⟨cs', hc⟩ := crash_whole [⟨a, a.length⟩, ⟨b, kp⟩] ([109], 0) [] (pick1 cs 2).2 a rfl
      have hf2 : ((od3 mN oC st ⟨a, a.length⟩ ⟨b, kp⟩).crash cs).files = [⟨a, a.length⟩, ⟨b, kp⟩] := by
        rw [hf]
        show (crashF [⟨a, a.length⟩, ⟨b, kp⟩] [([109], 0)] (pick1 cs 2).2).1 = _
        rw [hc]
        rfl
      exact ⟨a, rd _ _ 0 ⟨a, a.length⟩ rfl (by rw [hn]; rfl) hf2 rfl, .inl ⟨rfl, rfl⟩⟩
    · obtain ⟨cs', hc⟩ := crash_whole [⟨a, a.length⟩, ⟨b, kp⟩] ([109], 0) [([110], 1)] (pick1 cs 2).2 a rfl
      have hr : (replay mN (oC.take 1)).getD [] = oN := by decide +kernel
      have hf2 : ((od3 mN oC st ⟨a, a.length⟩ ⟨b, kp⟩).crash cs).files = (crashF [⟨a, a.length⟩, ⟨b, kp⟩] [([110], 1)] cs').1 := by
        rw [hf, hr, ← hc]
        rfl
      have h := crashF_step [⟨a, a.length⟩, ⟨b, kp⟩] ([110], 1) [] cs' ⟨b, kp⟩ rfl
      refine ⟨a, rd _ _ 0 ⟨a, a.length⟩ rfl (by rw [hn, hr]; rfl) hf2 ?_, .inl ⟨rfl, rfl⟩⟩
      rw [h]
      rfl
    · have hr : (replay mN (oC.take 2)).getD [] = pN := by decide +kernel
      exact yes _ (pick1 cs 2).2 rfl (by rw [hn, hr]) (by rw [hf, hr])
end Go.Proofs.Ytbooiaaejhbbkaa
