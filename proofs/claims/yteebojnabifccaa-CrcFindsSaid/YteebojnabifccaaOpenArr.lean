import Derived.Test.YteebojnabifccaaOpen
import Derived.WideKeyArr2
/- An array of four bytes that came in, opened. -/
namespace Go.Proofs.Yteebojnabifccaa
open Go.WideMaps Go.ChangeShapes Go.WideShapes Go.ChangeAt Go.RowKit Go.Proofs.YteebojnabifccaaW Go.Proofs.YteebojnabifccaaW.PrintWords
theorem arr4A : ArrKey Try.prog 36 5 4 := ⟨Try.underlying36, by kernel_rfl, by kernel_rfl, by kernel_rfl⟩
theorem open_arr4 {H : Type} {enc : TypeId × Value → H} {W : World} {v : Value} {d : DataW H} {ps : List MemPlace}
    (h : DataW.Trod enc Try.prog W 0 (fun _ => true) true 36 v d ps) (hv : Value.okWide Try.prog W .any 0 36 v) :
    ∃ b0 b1 b2 b3 : Int, v = .agg #[.int .u8 b0, .int .u8 b1, .int .u8 b2, .int .u8 b3] ∧ By [b0, b1, b2, b3] := by
  obtain ⟨xs, rfl, hn⟩ := okWide_arr arr4A hv
  obtain ⟨c0, c1, c2, c3, rfl⟩ : ∃ c0 c1 c2 c3, xs = #[c0, c1, c2, c3] := by
    match xs, hn with
    | ⟨[c0, c1, c2, c3]⟩, _ => exact ⟨c0, c1, c2, c3, rfl⟩
  obtain ⟨fuel, hf⟩ := h
  cases fuel with
  | zero => simp [DataW.trod] at hf
  | succ m =>
    rw [DataW.trod_step] at hf
    unfold DataW.trodStep at hf
    simp only [arr4A.hu, Value.cells] at hf
    rw [if_pos (by rw [arr4A.size]; simp), arr4A.one] at hf
    simp only [Option.map_eq_some_iff] at hf
    obtain ⟨ys, hy, e1⟩ := hf
    clear e1
    rw [show List.range 4 = [0, 1, 2, 3] from rfl] at hy
    simp only [List.mapM_cons, List.mapM_nil, bind, Option.bind_eq_some_iff, pure, Option.some.injEq, Nat.mul_one] at hy
    obtain ⟨y0, h0, _, ⟨y1, h1, _, ⟨y2, h2, _, ⟨y3, h3, _⟩, _⟩, _⟩, _⟩ := hy
    obtain ⟨b0, e0, _, w0⟩ := DataW.trod_int Try.underlying5 h0
    obtain ⟨b1, e1, _, w1⟩ := DataW.trod_int Try.underlying5 h1
    obtain ⟨b2, e2, _, w2⟩ := DataW.trod_int Try.underlying5 h2
    obtain ⟨b3, e3, _, w3⟩ := DataW.trod_int Try.underlying5 h3
    simp at e0 e1 e2 e3
    subst e0; subst e1; subst e2; subst e3
    refine ⟨b0, b1, b2, b3, rfl, fun x hx => ?_⟩
    simp at hx
    rcases hx with rfl | rfl | rfl | rfl
    · exact wf_u8 w0
    · exact wf_u8 w1
    · exact wf_u8 w2
    · exact wf_u8 w3
end Go.Proofs.Yteebojnabifccaa
