/- The reference's words out of hexadecimal digits. -/
import Derived.Test.YtnfnaedoejgpiaaDoorBits3
namespace Go.Proofs.YtnfnaedoejgpiaaDoor
open Go.RowKit

/-- The number of n digits, the least first. -/
def hexN (f : Nat → Nat) : Nat → Nat
  | 0 => 0
  | n + 1 => 2 ^ (4 * n) * f n + hexN f n
theorem hexN_lt {f : Nat → Nat} (hf : ∀ i, f i < 16) : ∀ n, hexN f n < 2 ^ (4 * n)
  | 0 => by simp [hexN]
  | n + 1 => by
    have h1 := hexN_lt hf n
    have h2 := hf n
    have h3 : 2 ^ (4 * (n + 1)) = 2 ^ (4 * n) * 16 := by rw [Nat.mul_add, Nat.pow_add]
    rw [hexN, h3]
    have h4 : 2 ^ (4 * n) * f n ≤ 2 ^ (4 * n) * 15 := Nat.mul_le_mul_left _ (by omega)
    omega
theorem hexN_bit {f : Nat → Nat} (hf : ∀ i, f i < 16) {i k : Nat} (hk : k < 4) : ∀ n, i < n → (hexN f n).testBit (4 * i + k) = (f i).testBit k
  | 0, h => by omega
  | n + 1, h => by
    rw [hexN, Nat.testBit_two_pow_mul_add _ (hexN_lt hf n)]
    rcases Nat.lt_or_ge i n with hi | hi
    · rw [if_pos (by omega)]; exact hexN_bit hf hk n hi
    · have : i = n := by omega
      subst this
      rw [if_neg (by omega), Nat.add_sub_cancel_left]
theorem hex_bit {f : Nat → Nat} (hf : ∀ i, f i < 16) {i k : Nat} (hi : i < 8) (hk : k < 4) : (BitVec.ofNat 32 (hexN f 8)).getLsbD (4 * i + k) = decide (f i / 2 ^ k % 2 = 1) := by
  rw [BitVec.getLsbD_ofNat, hexN_bit hf hk 8 hi, Nat.testBit_eq_decide_div_mod_eq]
  simp; omega
def HexAt (s : ByteArray) (n : Nat) (cs : Nat → UInt8) : Prop := ∀ i, i < 8 → ∃ h : 8 * n + 7 - i < s.size, s[8 * n + 7 - i] = cs i ∧ ((48 ≤ (cs i).toNat ∧ (cs i).toNat ≤ 57) ∨ (97 ≤ (cs i).toNat ∧ (cs i).toNat ≤ 102))
theorem digS_lt {c : UInt8} (h : (48 ≤ c.toNat ∧ c.toNat ≤ 57) ∨ (97 ≤ c.toNat ∧ c.toNat ≤ 102)) : digS c < 16 := by unfold digS; split <;> omega
def RelHex (w : World) (q : Nat) (x : BitVec 32) (i : Value) (wr : World) : Prop := ∃ k : Nat, k ≤ 8 ∧ i = .int .i64 k ∧ Blks w wr q [bitArr 0, halfArr x (4 * k)]
def RelHex2 (w : World) (q : Nat) (x : BitVec 32) (i d : Nat) (dv kv : Value) (wr : World) : Prop := ∃ k : Nat, k ≤ 4 ∧ kv = .int .i64 k ∧ dv = .int .i64 ((d / 2 ^ k : Nat) : Int) ∧ Blks w wr q [bitArr 0, halfArr x (4 * i + k)]
set_option maxRecDepth 4000 in
set_option maxHeartbeats 2000000 in
theorem hex_any (w : World) (s : ByteArray) (n : Nat) (cs : Nat → UInt8) (hs : HexAt s n cs) (hn : n ≤ 1000) (hss : s.size ≤ 100000) (hc16 : ∀ i, digS (cs i) < 16) :
    Calls Tryd.prog 61 #[.string s, .int .i64 n] w (BitPost w (BitVec.ofNat 32 (hexN (fun i => digS (cs i)) 8))) := by
  obtain ⟨X, hX⟩ : ∃ X, BitVec.ofNat 32 (hexN (fun i => digS (cs i)) 8) = X := ⟨_, rfl⟩
  rw [hX]
  obtain ⟨q, hq⟩ : ∃ q, w.heap.size = q := ⟨_, rfl⟩
  have HQ := Lib.hid (And.intro hq (And.intro hX (And.intro hs hc16)))
  clear hq hX hs hc16
  go_enter Tryd.func61, Tryd.ntmps61
  go_wp2_with fail
  have hq := HQ.out.1
  have b1 : Blks w (w.alloc (.cells (bitArr 0) 110)) q [bitArr 0] := by have := Blks.more (Blks.nil w) (by simp) (bitArr 0); rw [hq] at this; exact this
  have b2 := b1.more (by simp; omega) (bitArr 0)
  obtain ⟨w4, hw4⟩ : ∃ w4, (w.alloc (.cells (bitArr 0) 110)).alloc (.cells (bitArr 0) 110) = w4 := ⟨_, rfl⟩
  have hw4' : (w.alloc (.cells #[.bool false, .bool false, .bool false, .bool false, .bool false, .bool false, .bool false, .bool false, .bool false, .bool false, .bool false, .bool false, .bool false, .bool false, .bool false, .bool false, .bool false, .bool false, .bool false, .bool false, .bool false, .bool false, .bool false, .bool false, .bool false, .bool false, .bool false, .bool false, .bool false, .bool false, .bool false, .bool false] 110)).alloc (.cells #[.bool false, .bool false, .bool false, .bool false, .bool false, .bool false, .bool false, .bool false, .bool false, .bool false, .bool false, .bool false, .bool false, .bool false, .bool false, .bool false, .bool false, .bool false, .bool false, .bool false, .bool false, .bool false, .bool false, .bool false, .bool false, .bool false, .bool false, .bool false, .bool false, .bool false, .bool false, .bool false] 110) = w4 := hw4
  rw [hw4] at b2
  rw [hw4', hq]
  have B4 := Lib.hid b2
  clear b1 b2 hw4 hw4' hq
  go_loopw [6] (RelHex w q X) (fun i _ => (8 - intOf i).toNat)
  case atStart => exact ⟨0, by omega, rfl, by rw [half_zero]; exact B4.out⟩
  case round =>
    obtain ⟨i, hi, rfl, hb⟩ := hrel
    rcases Nat.lt_or_ge i 8 with hlt | hge
    · obtain ⟨hi1, hi2, hi3⟩ := HQ.out.2.2.1 i hlt
      have hidx : ∀ w, (Instr.index 9 (.string s) (.int .i64 (8 * (n : Int) + 7 - (i : Int)))).run Tryd.prog w = .ok (bv (cs i)) w := fun w => by
        rw [run_index_string w 9 s .i64 _ Tryd.underlying9]
        have h1 : 0 ≤ 8 * (n : Int) + 7 - (i : Int) ∧ 8 * (n : Int) + 7 - (i : Int) < s.size := by omega
        rw [dif_pos h1]
        have h2 : (8 * (n : Int) + 7 - (i : Int)).toNat = 8 * n + 7 - i := by omega
        unfold bv
        rw [← hi2]
        congr 5
      have hidx1 := hidx wr
      have HI := Lib.hid (And.intro hi3 hb)
      have h0i : (0 : Int) ≤ 8 * (n : Int) + 7 - (i : Int) := by omega
      clear hidx hi1 hi2 hi3 hb
      obtain ⟨c, hc⟩ : ∃ c, cs i = c := ⟨_, rfl⟩
      rw [hc] at hidx1
      have HC := Lib.hid hc
      clear hc
      go_wp2_with fail
      refine (digit_any wr c (by rw [← HC.out]; exact HI.out.1)).mono ?_
      rintro e w' ⟨rfl, rfl⟩
      have hd16 : digS c < 16 := by rw [← HC.out]; exact HQ.out.2.2.2 i
      have hbit : ∀ k, k < 4 → X.getLsbD (4 * i + k) = decide (digS c / 2 ^ k % 2 = 1) := fun k hk => by
        rw [← HQ.out.2.1, hex_bit (f := fun i => digS (cs i)) HQ.out.2.2.2 hlt hk, HC.out]
      generalize digS c = d at *
      have HB := Lib.hid (And.intro hbit HI.out.2)
      clear hbit hidx1
      go_wp2_with fail
      obtain ⟨wo, hwo⟩ : ∃ wo : World, wo = wr := ⟨_, rfl⟩
      subst hwo
      go_loopw [7, 8] (RelHex2 w q X i d) (fun _ k _ => (4 - intOf k).toNat)
      case atStart => exact ⟨0, by omega, rfl, by simp, HB.out.2⟩
      case round =>
        obtain ⟨k, hk, rfl, rfl, hb⟩ := hrel
        rcases Nat.lt_or_ge k 4 with hk4 | hk4
        · have hlt32 : 4 * i + k < 32 := by omega
          have f3 : wr.frozen? ⟨q + 1, 4 * i + k, none⟩ = false := (hb.at_ 1 _ rfl).frozen _
          obtain ⟨v3, c3⟩ : ∃ v, wr.cell? ⟨q + 1, 4 * i + k, none⟩ = some v := ⟨_, (hb.at_ 1 _ rfl).cell (half_at hlt32)⟩
          have hset : ∀ u : Bool, u = X.getLsbD (4 * i + k) → Blks w (wr.setCell ⟨q + 1, 4 * i + k, none⟩ (.bool u)) q [bitArr 0, halfArr X (4 * i + k + 1)] := fun u hu => hb.set (n := 1) rfl (half_set hlt32 hu)
          rw [HB.out.1 k hk4] at hset
          have hdiv : d / 2 ^ (k + 1) = d / 2 ^ k / 2 := by rw [Nat.pow_succ, Nat.div_div_eq_div_mul]
          obtain ⟨e, he⟩ : ∃ e, d / 2 ^ k = e := ⟨_, rfl⟩
          have he16 : e < 16 := by rw [← he]; exact Nat.lt_of_le_of_lt (Nat.div_le_self _ _) hd16
          rw [he] at hset hdiv ⊢
          have e4 : (4 * (i : Int) + (k : Int)).toNat = 4 * i + k := by omega
          have e2 : ((e : Int) % 2 == 1) = decide (e % 2 = 1) := by by_cases h : e % 2 = 1 <;> simp [h] <;> omega
          have HX := Lib.hid (And.intro hset (And.intro hdiv e2))
          clear hset hdiv he hb e2
          go_wp2
          go_roundw
          case rel => exact ⟨k + 1, by omega, by go_num, by rw [HX.out.2.1]; rfl, HX.out.1 _ (by first | exact HX.out.2.2 | simp)⟩
          case measure => simp [intOf]; omega
        · obtain rfl : k = 4 := by omega
          have HX := Lib.hid hb
          clear hb
          go_wp2
          go_roundw
          case rel => exact ⟨i + 1, by omega, by go_num, by have := HX.out; rw [show 4 * i + 4 = 4 * (i + 1) by omega] at this; exact this⟩
          case measure => simp [intOf]; omega
    · obtain rfl : i = 8 := by omega
      rw [show 4 * 8 = 32 from rfl, half_all] at hb
      have hld : (Tryd.prog.info? 110).map (·.size) = some (bitArr X).toList.length := by rw [size_bits]; simp [bit_size]
      have HX := Lib.hid (And.intro hb (And.intro hld (bit_one X)))
      clear hb hld
      go_wp2_with (first | (with_reducible refine wpList_load_blk (o := ⟨some 35, _, _, _, _, _⟩) rfl 110 (.tmp 5) rfl (b := q + 1) 0 rfl (HX.out.1.at_ 1 _ rfl) _ (bitArr X).toList (fun j u hj => by rw [Nat.zero_add]; simpa using hj) Tryd.underlying110 rfl HX.out.2.1 ?_) | (with_reducible refine wpList_store_blk (o := ⟨none, .store 110 (.tmp 4) (.tmp 35), _, _, _, _⟩) rfl 110 (.tmp 4) (.tmp 35) rfl (b := q) 0 rfl (HX.out.1.at_ 0 _ rfl) (.agg (bitArr X).toList.toArray) rfl (bitArr X).toList rfl ?_ HX.out.2.2 HX.out.2.1 ?_))
      · simp [bit_size]
      intro w2 b2 u2
      rw [splice_all (by simp [bit_size])] at b2
      have H2 := Lib.hid (And.intro b2 (HX.out.1.upd.trans u2 (by have := HX.out.1.hq; simp; omega)))
      clear b2 u2
      go_wp2
      refine bodyPost_ret (results_blk rfl _ H2.out.1 _ rfl Tryd.underlying110 rfl (by simpa [bit_size] using size_bits)) rfl ?_
      exact ⟨by simp, H2.out.2⟩
end Go.Proofs.YtnfnaedoejgpiaaDoor
