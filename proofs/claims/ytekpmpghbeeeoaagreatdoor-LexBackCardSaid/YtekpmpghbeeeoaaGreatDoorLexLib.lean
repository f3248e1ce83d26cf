import Derived.Test.YtekpmpghbeeeoaaGreatDoorLexShelf
import Derived.Test.YtekpmpghbeeeoaaGreatDoorStrS
import Derived.Test.YtekpmpghbeeeoaaGreatDoorUtf
/- The library's functions that package lex calls, over lists of bytes. -/
namespace Go.Proofs.YtekpmpghbeeeoaaGreatDoor
open Go.RowKit Go.Shelf Go.Proofs.YtekpmpghbeeeoaaGreatDoorW.PrintWords Go.Proofs.YtekpmpghbeeeoaaGreatDoorW.PrintMore

theorem lib_prefix (s p : List UInt8) (w : World) : Calls Tryz.prog 63 #[.string (S s), .string (S p)] w fun e w' => e = .returned (.bool (p.isPrefixOf s)) ∧ w' = w :=
  Any.strings_HasPrefix TryzlayPre (S s) (S p) w
theorem lib_byte (s : List UInt8) (c : UInt8) (w : World) : Calls Tryz.prog 66 #[.string (S s), .int .u8 (c.toNat : Int)] w fun e w' => e = .returned (.int .i64 (Lib.indexByte s c)) ∧ w' = w := by
  have h := Any.strings_IndexByte TryzlayByte (S s) (c.toNat : Int) w
  have e1 : ((c.toNat : Int)).toNat.toUInt8 = c := by
    rw [← UInt8.toNat_inj]
    simp
  rw [e1] at h
  exact h
theorem lib_suffix (s p : List UInt8) (hs : s.length ≤ 1000000000) (w : World) : Calls Tryz.prog 21 #[.string (S s), .string (S p)] w fun e w' => e = .returned (.bool (Lib.hasSuffix s p)) ∧ w' = w :=
  Any.strings_HasSuffix TryzlaySuf (S s) (S p) w (by rw [S_size]; omega)
theorem nl_by (l : List UInt8) : By (nl l) := by
  intro x hx
  obtain ⟨b, -, rfl⟩ := List.mem_map.1 hx
  have := b.toNat_lt
  omega
theorem nl_str (l : List UInt8) : strOfNums (nl l) = S l := strOf_nums l
/-- The code point that begins a text. -/
theorem decode_str (l : List UInt8) (hne : l ≠ []) (w : World) (hT : Tabs w) :
    Calls Tryz.prog 65 #[.string (S l)] w fun e w' => e = .returned (.tuple #[.int .i32 ((dec (nl l)).1 : Int), .int .i64 ((dec (nl l)).2 : Int)]) ∧ Below w.heap.size w w' := by
  have h := Any.utf8_DecodeRuneInString TryzlayDecS (S l) w hT
  have hd := decodeGo_dec (nl_by l) (by intro h; exact hne (by simpa [nl] using h))
  rw [nl_str] at hd
  rw [hd] at h
  exact h
theorem decode_str_nil (w : World) (hT : Tabs w) :
    Calls Tryz.prog 65 #[.string (S [])] w fun e w' => e = .returned (.tuple #[.int .i32 65533, .int .i64 0]) ∧ Below w.heap.size w w' := by
  have h := Any.utf8_DecodeRuneInString TryzlayDecS (S []) w hT
  exact h
end Go.Proofs.YtekpmpghbeeeoaaGreatDoor
