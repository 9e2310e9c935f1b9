/- Book.Records: copies of a book's records. -/
import Derived.Test.YtnfnaedoejgpiaaDoorAwake
namespace Go.Proofs.YtnfnaedoejgpiaaDoor
open Go.RowKit

def RecordsPost (W : World) (ls : List (List UInt8)) (e : Ending) (w : World) : Prop :=
  ∃ ao c vs, e = .returned (.slice ao ls.length c) ∧ RowsAt w W.heap.size (.slice ao ls.length c) vs ls ∧ Upd [] W w
def RelRec (W : World) (ls : List (List UInt8)) (v i : Value) (w : World) : Prop :=
  ∃ n vs, n ≤ ls.length ∧ i = .int .i64 (n : Nat) ∧ (∃ ao c, v = .slice ao n c) ∧ RowsAt w W.heap.size v vs (ls.take n) ∧ Upd [] W w
set_option maxRecDepth 4000 in
set_option maxHeartbeats 1000000 in
theorem records_any (w : World) (B : BookF) (b : BookS) (D : DiskS) (h : BookAt w B b D) :
    Calls Tryd.prog 14 #[.pointer (some ⟨B.p, 0, none⟩)] w (RecordsPost w b.recs) := by
  obtain ⟨p, F, rv, vs⟩ := B
  have T := h.top
  dsimp only at T
  obtain ⟨rvo, rvc, rfl, -⟩ := own_sl h.rows.row
  have c3 := T.cell (i := 3) (v := .slice rvo b.recs.length rvc) rfl
  have hfew : b.recs.length ≤ 8192 := by have := h.few; have := h.next; have := h.disk.ok.few; omega
  have HS := Lib.hid h
  clear h T
  obtain ⟨ls, hls⟩ : ∃ ls, b.recs = ls := ⟨_, rfl⟩
  rw [hls] at c3 hfew HS ⊢
  have HL := Lib.hid hls
  clear hls
  go_enter Tryd.func14, Tryd.ntmps14
  go_wp2_with fail
  go_loopw [3, 11] (RelRec w ls) (fun _ i _ => ((ls.length : Int) - intOf i).toNat)
  case atStart => exact ⟨0, [], Nat.zero_le _, rfl, ⟨none, 0, rfl⟩, RowsAt.nil _ _, Upd.refl _ _⟩
  case round =>
    obtain ⟨n, us, hn, rfl, ⟨vo, vc, rfl⟩, hrow, hu⟩ := hrel
    rcases Nat.lt_or_ge n ls.length with hlt | hge
    · have hrows := HS.out.rows
      dsimp only at hrows
      rw [HL.out] at hrows
      have hvl : vs.length = ls.length := hrows.all.1
      obtain ⟨bb, o, hpo, hb, hc⟩ := Sl.addr (own_sl hrows.row) (by omega)
      subst hpo
      have hcn : wr.cell? ⟨bb, o + n, none⟩ = some (vs[n]'(by omega)) := by
        rw [World.cell?_of_block (hu.block bb hb (by simp))]
        exact hc n _ (by simp [hvl, hlt])
      have hx := own_sl (own_upd (hrows.all.2 n (by omega) hlt) hu (by simp))
      have hxl : ls[n].length ≤ 4096 := HS.out.lens _ (by rw [HL.out]; exact List.getElem_mem _)
      have hst : ls.take (n + 1) = ls.take n ++ [ls[n]] := by simp
      have HX := Lib.hid (And.intro hx (And.intro hxl (And.intro hst (And.intro hrow hu))))
      clear hx hxl hst hrow hu hrows hc
      generalize vs[n]'(by omega) = x at *
      generalize ls[n] = s at *
      go_wp2_with fail
      refine (clone_any wr x s HX.out.1 (by have := HX.out.2.1; omega)).mono ?_
      rintro e w1 ⟨ao, c, rfl, h1⟩
      obtain ⟨sl, hsl⟩ : ∃ sl, s.length = sl := ⟨_, rfl⟩
      have hU : Upd [] w w1 := HX.out.2.2.2.2.trans h1.2 (by simp)
      have hr3 := HX.out.2.2.2.1.upd0 h1.2
      have hlen : (ls.take n).length = n := by simp; omega
      have hx3 : w1.ownsRow w.heap.size 5 1 (.slice ao s.length c) s.length (s.map bv) := own_base h1.1 (by have h1 := (own_lt h1.1).2; have h2 := HX.out.2.2.2.2.size; omega)
      rw [hsl] at hx3 ⊢
      have hr4 := hr3.upd0 ((Upd.refl [] w1).alloc (.cells #[.slice ao sl c] 26))
      have hx4 := own_upd hx3 ((Upd.refl [] w1).alloc (.cells #[.slice ao sl c] 26)) (by simp)
      have hrow := hr4.row
      rw [hlen] at hrow
      have hs3 := hU.size
      have H4 := Lib.hid (And.intro hU (And.intro hr4 (And.intro hx4 (And.intro hrow (And.intro (Blk.new w1 #[.slice ao sl c] 26).sl1 (And.intro hlen (And.intro hs3 hsl)))))))
      clear hU hr3 hlen hx3 hr4 hx4 hrow hs3 hsl h1
      go_wp2_with (at_builtin; refine wpList_app _ rfl (.tmp 15) (.tmp 18) 24 rfl w.heap.size 26 (.slice none 0 0) 1 24 Tryd.underlying24 info_bytes rfl (by decide) (.slice vo n vc) n us rfl H4.out.2.2.2.1 (.slice (some ⟨w1.heap.size, 0, none⟩) 1 1) 1 [.slice ao sl c] rfl H4.out.2.2.2.2.1 (by simp [Value.oneCell']) (by omega) (by decide) (by have := H4.out.2.2.2.2.2.2.1; simp; omega) ?_)
      intro ao2 c2 w4 h4
      have hrw := RowsAt.app (l := s) H4.out.2.1 (by rw [H4.out.2.2.2.2.2.2.2]; exact H4.out.2.2.1) (by rw [H4.out.2.2.2.2.2.1]; exact h4)
      rw [← HX.out.2.2.1] at hrw
      have hu4 : Upd [] w w4 := (H4.out.1.alloc _).trans h4.upd (fun k hk => by
        right
        have := own_lt H4.out.2.2.2.1
        rw [own_block] at hk
        split at hk
        · simp at hk
        · simp at hk; omega)
      have H5 := Lib.hid (And.intro hrw hu4)
      clear hrw hu4 h4
      go_wp2
      go_roundw
      case rel => exact ⟨n + 1, _, by omega, by go_num, ⟨_, _, rfl⟩, H5.out.1, H5.out.2⟩
      case measure => simp [intOf]; omega
    · obtain rfl : n = ls.length := by omega
      rw [List.take_length] at hrow
      have H5 := Lib.hid (And.intro hrow hu)
      clear hrow hu
      go_wp2
      go_ret
      exact ⟨vo, vc, us, rfl, H5.out.1, H5.out.2⟩
/-- A cell of a slice of the call's own, set. -/
theorem own_set {w : World} {base e n g c i : Nat} {xs : List Value} {u : Value} (h : w.ownsRow base e 1 (.slice (some ⟨g, 0, none⟩) n c) n xs) (hi : i < n) : (w.setCell ⟨g, i, none⟩ u).ownsRow base e 1 (.slice (some ⟨g, 0, none⟩) n c) n (xs.set i u) := by
  obtain ⟨h1, h2⟩ := h
  refine ⟨by simpa using h1, ?_⟩
  rcases h2 with ⟨h2, -⟩ | ⟨g', cap, cur, hv, hb, hh, hn, hm, hs, ht⟩
  · simp at h2
  · simp only [Value.slice.injEq, Option.some.injEq, Addr.mk.injEq, true_and, and_true] at hv
    obtain ⟨rfl, rfl⟩ := hv
    refine .inr ⟨g, c, cur.setIfInBounds i u, rfl, hb, heap_setCell_same w g i cur e u hh, hn, hm, by simpa using hs, ?_⟩
    rw [Array.toList_setIfInBounds, ← ht, List.take_set]
end Go.Proofs.YtnfnaedoejgpiaaDoor
