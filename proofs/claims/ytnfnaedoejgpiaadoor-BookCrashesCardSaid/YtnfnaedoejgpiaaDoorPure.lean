/- The plain functions of codec's Out and In on lists of bytes. No program stands here. -/
import Derived.RowKit
namespace Go.Proofs.YtnfnaedoejgpiaaDoor
/-- What an Out holds. -/
structure OutS where
  bad : Bool
  b : List UInt8
def OutS.put (s : OutS) (x : List UInt8) : OutS := if s.bad = false ∧ s.b.length + x.length ≤ 4096 then ⟨false, s.b ++ x⟩ else ⟨true, s.b⟩
/-- The bytes of a number, k of them, the greatest first. -/
def be (n : Nat) : Nat → List UInt8
  | 0 => []
  | k + 1 => UInt8.ofNat (n / 256 ^ k) :: be n k
def OutS.wide (s : OutS) (n : Nat) : Nat → OutS
  | 0 => s
  | k + 1 => (s.put [UInt8.ofNat (n / 256 ^ k)]).wide n k
def OutS.small (s : OutS) (n : Int) (k : Nat) : OutS := if 0 ≤ n ∧ n < 256 ^ k then s.wide n.toNat k else ⟨true, s.b⟩
/-- What an In holds. -/
structure InS where
  bad : Bool
  b : List UInt8
def InS.raw (s : InS) (n : Int) : List UInt8 × InS := if s.bad = false ∧ 0 ≤ n ∧ n ≤ s.b.length then (s.b.take n.toNat, ⟨false, s.b.drop n.toNat⟩) else ([], ⟨true, s.b⟩)
def ofBe (l : List UInt8) : Nat := l.foldl (fun n c => n * 256 + c.toNat) 0
def InS.num (s : InS) (k : Nat) : Nat × InS := (ofBe (s.raw k).1, (s.raw k).2)
/-- What a finished Out hands back. -/
def OutS.fin (s : OutS) : List UInt8 × Int := if s.bad then ([], 3) else (s.b, 0)
theorem raw_len (s : InS) (n : Int) : (s.raw n).2.b.length ≤ s.b.length ∧ (s.raw n).1.length ≤ s.b.length ∧ (0 ≤ n → (s.raw n).1.length ≤ n.toNat) := by
  unfold InS.raw; split
  · refine ⟨by simp, by simp; omega, fun _ => by simp; omega⟩
  · simp
end Go.Proofs.YtnfnaedoejgpiaaDoor
