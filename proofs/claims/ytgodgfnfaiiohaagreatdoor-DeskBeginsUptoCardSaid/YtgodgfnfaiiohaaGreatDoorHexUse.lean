/- The texts of thresholds and draws, read again (plain), and hexa.Th by a function of the number. -/
import Derived.Test.YtgodgfnfaiiohaaGreatDoorParseTh
namespace Go.Proofs.YtgodgfnfaiiohaaGreatDoor
open Go.ChangeShapes Go.WideShapes Go.ChangeAt Go.RowKit
set_option maxRecDepth 20000
/-- How many digits the text of a threshold has. -/
def trm (n : Nat) : Nat → Nat
  | 0 => 1
  | 1 => 1
  | m + 2 => if hd n (m + 1) = 48 then trm n (m + 1) else m + 2
theorem trm_ok (n : Nat) : ∀ m, 1 ≤ m → m ≤ 14 → (∀ j, m ≤ j → j < 14 → hd n j = 48) → 1 ≤ trm n m ∧ trm n m ≤ 14 ∧ (∀ j, trm n m ≤ j → j < 14 → hd n j = 48) ∧ (trm n m = 1 ∨ hd n (trm n m - 1) ≠ 48)
  | 0, h, _, _ => by omega
  | 1, _, h, hz => ⟨by simp [trm], by simp [trm], by simpa [trm] using hz, .inl rfl⟩
  | m + 2, _, h, hz => by
    by_cases e : hd n (m + 1) = 48
    · have hs : trm n (m + 2) = trm n (m + 1) := by simp only [trm]; rw [if_pos e]
      rw [hs]
      exact trm_ok n (m + 1) (by omega) (by omega) (fun j h1 h2 => by
        by_cases ej : j = m + 1
        · rw [ej]; exact e
        · exact hz j (by omega) h2)
    · have hs : trm n (m + 2) = m + 2 := by simp only [trm]; rw [if_neg e]
      rw [hs]
      exact ⟨by omega, h, hz, .inr e⟩
def thTxt (n : Nat) : ByteArray := hexB n (trm n 14)
theorem thTxt_ok (n : Nat) : 1 ≤ trm n 14 ∧ trm n 14 ≤ 14 ∧ (∀ j, trm n 14 ≤ j → j < 14 → hd n j = 48) ∧ (trm n 14 = 1 ∨ hd n (trm n 14 - 1) ≠ 48) := trm_ok n 14 (by omega) (by omega) (fun j h1 h2 => by omega)
theorem tht_c (n : Nat) (hlt : n < 72057594037927936) (w : World) :
    Calls Tryz.prog 53 #[.int .i64 n] w fun e w' => e = .returned (.tuple #[.string (thTxt n), .int .i64 0]) ∧ Below w.heap.size w w' := by
  refine (th_c n hlt w).mono ?_
  rintro e w' ⟨m, h1, h2, rfl, hH, hb⟩
  obtain ⟨a, b, c, d⟩ := thTxt_ok n
  rw [trim_same n m (trm n 14) h1 a h2 b hH.out.1 c hH.out.2 d]
  exact ⟨rfl, hb⟩
end Go.Proofs.YtgodgfnfaiiohaaGreatDoor
