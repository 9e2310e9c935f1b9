/- How many writes a disk has waiting. -/
import Derived.Test.YtnfnaedoejgpiaaDoorDisk
namespace Go.Proofs.YtnfnaedoejgpiaaDoor
open Go.RowKit

theorem waits_any (w : World) (F : DiskF) (D : DiskS) (h : DiskAt w F D) :
    Calls Tryd.prog 23 #[.pointer (some ⟨F.d, 0, none⟩)] w fun e w' => e = .returned (.int .i64 D.waits.length) ∧ w = w' := by
  have c3 := h.top.cell (i := 3) rfl
  obtain ⟨wo, wc, hw, -⟩ := own_sl h.ws
  rw [hw] at c3
  clear h hw
  go_enter Tryd.func23, Tryd.ntmps23
  go_wp2
  go_ret
  exact ⟨rfl, rfl⟩
end Go.Proofs.YtnfnaedoejgpiaaDoor
