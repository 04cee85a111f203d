/- What the package rec computes, in plain Lean: no program in sight. -/
import Derived.Test.YtkempcjemeipnaaDoorVlqTake
import Derived.Test.YtkempcjemeipnaaDoorSumsFn
namespace Gw.Vlq
theorem takeF_le : ∀ (l : List UInt8) (n i m u : Nat), takeF n i l = some (m, u) → i < u ∧ u ≤ i + l.length
  | [], n, i, m, u, h => by simp [takeF] at h
  | c :: l, n, i, m, u, h => by
    rw [takeF] at h
    rw [List.length_cons]
    split at h
    · exact absurd h (by simp)
    · split at h
      · simp only [Option.some.injEq, Prod.mk.injEq] at h; omega
      · have := takeF_le l _ _ _ _ h; omega
theorem take_le (l : List UInt8) {m u : Nat} (h : take l = some (m, u)) : 0 < u ∧ u ≤ l.length := by
  have := takeF_le l 0 0 m u h; omega
end Gw.Vlq
namespace Gw.Rec
open Gw.Vlq

def mark (lsn : Nat) : Nat := lsn % 250 + 1
/-- A record's bytes. -/
def bytes (lsn : Nat) (p : List UInt8) : List UInt8 := Gw.Vlq.text [] (Gw.Sums.seal_ (Gw.Vlq.text (one lsn) p))
/-- A piece between its marks. -/
def sector (m : Nat) (c : List UInt8) : List UInt8 := UInt8.ofNat m :: ((c ++ List.replicate (14 - c.length) 0) ++ [UInt8.ofNat m])
def piece (b : List UInt8) (i : Nat) : List UInt8 := (b.drop (14 * i)).take 14
def secs (m : Nat) (b : List UInt8) (k : Nat) : List UInt8 := (List.range k).flatMap fun i => sector m (piece b i)
theorem secs_succ (m : Nat) (b : List UInt8) (k : Nat) : secs m b (k + 1) = secs m b k ++ sector m (piece b k) := by
  unfold secs; rw [List.range_succ, List.flatMap_append]; simp
theorem piece_len (b : List UInt8) (i : Nat) : (piece b i).length = min 14 (b.length - 14 * i) := by unfold piece; rw [List.length_take, List.length_drop]
theorem sector_len (m : Nat) {c : List UInt8} (h : c.length ≤ 14) : (sector m c).length = 16 := by unfold sector; simp; omega
theorem secs_len (m : Nat) (b : List UInt8) : ∀ k, (secs m b k).length = 16 * k
  | 0 => rfl
  | k + 1 => by rw [secs_succ, List.length_append, secs_len m b k, sector_len m (by rw [piece_len]; omega)]; omega
def many (b : List UInt8) : Nat := (b.length + 13) / 14
/-- A record's sectors. -/
def packed (lsn : Nat) (p : List UInt8) : List UInt8 := secs (mark lsn) (bytes lsn p) (many (bytes lsn p))
def may (lsn : Int) (p : List UInt8) : Bool := decide (1 ≤ lsn) && (decide (lsn ≤ 1000000) && decide (p.length ≤ 40000))
def pack (lsn : Int) (p : List UInt8) : List UInt8 := if may lsn p = true then packed lsn.toNat p else []
def packErr (lsn : Int) (p : List UInt8) : Int := if may lsn p = true then 0 else 130
/-- A sector of a text, and what stands between its marks. -/
def sect (s : List UInt8) (k : Nat) : List UInt8 := (s.take (16 * k + 16)).drop (16 * k)
def inn (c : List UInt8) : List UInt8 := (c.take 15).drop 1
/-- What is known behind one more piece: whether there is enough, and how much is needed. -/
def wStep (s b piece : List UInt8) (need : Nat) : Bool × Nat :=
  if need = 0 then (match Gw.Vlq.take piece with | none => (true, 0) | some (n, u) => if s.length < n then (true, 0) else (decide (u + n ≤ b.length), u + n)) else (decide (need ≤ b.length), need)
def wholeF (s : List UInt8) (m : Nat) : Nat → Nat → List UInt8 → Nat → List UInt8 × Nat
  | 0, _, b, need => (b, need)
  | f + 1, k, b, need => if 16 * k + 16 ≤ s.length then
      (if ((sect s k).getD 0 0).toNat ≠ m ∨ ((sect s k).getD 15 0).toNat ≠ m then (b, need) else
        if (wStep s (b ++ inn (sect s k)) (inn (sect s k)) need).1 = true then (b ++ inn (sect s k), (wStep s (b ++ inn (sect s k)) (inn (sect s k)) need).2)
        else wholeF s m f (k + 1) (b ++ inn (sect s k)) (wStep s (b ++ inn (sect s k)) (inn (sect s k)) need).2)
    else (b, need)
def wholeE (r : List UInt8 × Nat) : List UInt8 := if r.2 = 0 ∨ r.1.length < r.2 then [] else r.1
/-- The bytes of the record with which a text seems to begin. -/
def whole (s : List UInt8) (m : Nat) : List UInt8 := wholeE (wholeF s m (s.length + 1) 0 [] 0)
theorem sect_len {s : List UInt8} {k : Nat} (h : 16 * k + 16 ≤ s.length) : (sect s k).length = 16 := by unfold sect; rw [List.length_drop, List.length_take]; omega
theorem inn_len {c : List UInt8} (h : c.length = 16) : (inn c).length = 14 := by unfold inn; rw [List.length_drop, List.length_take]; omega
end Gw.Rec
