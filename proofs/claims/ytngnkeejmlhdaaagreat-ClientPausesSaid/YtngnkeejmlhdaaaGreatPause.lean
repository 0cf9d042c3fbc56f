/- Pause. Texts joined by program (asm.py): RemPause. -/
import Derived.Test.YtngnkeejmlhdaaaGreatProg
import Derived.WalkKit
import Derived.WalkSpells
/-! How many rounds a pause has. -/
namespace Go.Proofs
open Go.RowKit

/-- at most 16, doubled k - 1 times -/
def capT (q k : Int) : Int := if k ≤ 1 then min q 16 else if k = 2 then min (2 * q) 16 else if k = 3 then min (4 * q) 16 else if k = 4 then min (8 * q) 16 else 16
def SameT (q k a b : Int) : Prop := capT q k = capT a b
def pauseT (a b : Int) : Int := if a < 1 ∨ b < 1 then 0 else capT a b
theorem capT_lo {q k : Int} (hq : 1 ≤ q) : 1 ≤ capT q k ∧ capT q k ≤ 16 := by
  unfold capT
  repeat' split
  all_goals omega
theorem capT_step {q k : Int} (hq : 1 ≤ q) (hk : 1 < k) : capT (min (2 * q) 16) (k - 1) = capT q k := by
  unfold capT
  repeat' split
  all_goals omega
theorem capT_step' {q k : Int} (hq : 1 ≤ q) (hk : 1 < k) : capT (2 * q) (k - 1) = capT q k := by
  unfold capT
  repeat' split
  all_goals omega
theorem capT_min {q k : Int} (hq : 1 ≤ q) : capT (min q 16) k = capT q k := by
  unfold capT
  repeat' split
  all_goals omega
theorem capT_end {q k : Int} (hq : 1 ≤ q) (h : k ≤ 1 ∨ 16 ≤ q) : capT q k = min q 16 := by
  unfold capT
  repeat' split
  all_goals omega
theorem capT_mono {q k : Int} (hq : 1 ≤ q) : capT q k ≤ capT q (k + 1) := by
  unfold capT
  repeat' split
  all_goals omega
theorem pauseT_lo (a b : Int) : 0 ≤ pauseT a b ∧ pauseT a b ≤ 16 := by
  unfold pauseT
  split
  · omega
  · have := @capT_lo a b (by omega); omega
theorem pauseT_mono {a b : Int} (hb : 1 ≤ b) : pauseT a b ≤ pauseT a (b + 1) := by
  unfold pauseT
  split
  · split
    · omega
    · have := @capT_lo a (b + 1) (by omega); omega
  · split
    · omega
    · exact capT_mono (by omega)

theorem ret_intP {k : IntKind} {a b : Int} (h : a = b) : Ending.returned (.int k a) = .returned (.int k b) := by rw [h]

set_option maxHeartbeats 1000000 in
theorem Tryz.pause_any (a b : Int) (ha : a ≤ 9223372036854775807) (hb : b ≤ 9223372036854775807) (w : World) :
    Calls Tryz.prog 32 #[.int .i64 a, .int .i64 b] w fun e w' => e = .returned (.int .i64 (pauseT a b)) ∧ w = w' := by
  by_cases h0 : a < 1
  · have hp : pauseT a b = 0 := by unfold pauseT; rw [if_pos (.inl h0)]
    rw [hp]; clear hp
    go_enter Tryz.func32, Tryz.ntmps32
    go_wp2
    go_ret
    exact ⟨rfl, rfl⟩
  by_cases h1 : b < 1
  · have hp : pauseT a b = 0 := by unfold pauseT; rw [if_pos (.inr h1)]
    rw [hp]; clear hp
    go_enter Tryz.func32, Tryz.ntmps32
    go_wp2
    go_ret
    exact ⟨rfl, rfl⟩
  have HP : Hid (pauseT a b = capT a b) := by show pauseT a b = capT a b; unfold pauseT; rw [if_neg (by omega)]
  by_cases hA : a ≤ 16
  all_goals
    go_enter Tryz.func32, Tryz.ntmps32
    go_wp2
    go_loop [1, 5] (fun n p => ∃ k q : Int, 1 ≤ k ∧ k ≤ 9223372036854775807 ∧ 1 ≤ q ∧ q ≤ 16 ∧ SameT q k a b ∧ n = .int .i64 k ∧ p = .int .i64 q) (fun n _ => (intOf n).toNat)
    case atStart => first | exact ⟨b, a, by omega, by omega, by omega, by omega, rfl, rfl, rfl⟩ | exact ⟨b, 16, by omega, by omega, by omega, by omega, by have := @capT_min a b (by omega); rw [show min a 16 = 16 by omega] at this; exact this, rfl, rfl⟩
    case round =>
      obtain ⟨k, q, hk, hkm, hq, hq16, hs, rfl, rfl⟩ := hrel
      by_cases hc : 1 < k ∧ q < 16
      · obtain ⟨hc1, hc2⟩ := hc
        have hst := capT_step hq hc1
        by_cases hB : 2 * q ≤ 16
        · have HS : Hid (SameT (2 * q) (k - 1) a b) := by
            rw [show min (2 * q) 16 = 2 * q by omega] at hst
            exact hst.trans hs
          clear hst hs
          go_wp2
          go_round
          case rel => exact ⟨k - 1, 2 * q, by omega, by omega, by omega, by omega, HS.out, by go_num, by go_num⟩
          case measure => simp [intOf]; omega
        · have HS : Hid (SameT 16 (k - 1) a b) := by
            rw [show min (2 * q) 16 = 16 by omega] at hst
            exact hst.trans hs
          clear hst hs
          go_wp2
          go_round
          case rel => exact ⟨k - 1, 16, by omega, by omega, by omega, by omega, HS.out, by go_num, by go_num⟩
          case measure => simp [intOf]; omega
      · have he : capT q k = min q 16 := capT_end hq (by omega)
        have HE : Hid (q = pauseT a b) := by rw [HP.out]; show q = capT a b; rw [← hs, he]; omega
        clear he
        by_cases hc1 : 1 < k
        · have hq' : 16 ≤ q := by omega
          go_wp2
          go_ret
          exact ⟨ret_intP HE.out, rfl⟩
        · go_wp2
          go_ret
          exact ⟨ret_intP HE.out, rfl⟩

set_option maxHeartbeats 1000000 in
theorem Tryz.pauseRef_any (a b : Int) (ha : a ≤ 9223372036854775807) (hb : b ≤ 9223372036854775807) (w : World) :
    Calls Tryz.prog 33 #[.int .i64 a, .int .i64 b] w fun e w' => e = .returned (.int .i64 (pauseT a b)) ∧ w = w' := by
  by_cases h0 : a < 1
  · have hp : pauseT a b = 0 := by unfold pauseT; rw [if_pos (.inl h0)]
    rw [hp]; clear hp
    go_enter Tryz.func33, Tryz.ntmps33
    go_wp2
    go_ret
    exact ⟨rfl, rfl⟩
  by_cases h1 : b < 1
  · have hp : pauseT a b = 0 := by unfold pauseT; rw [if_pos (.inr h1)]
    rw [hp]; clear hp
    go_enter Tryz.func33, Tryz.ntmps33
    go_wp2
    go_ret
    exact ⟨rfl, rfl⟩
  have HP : Hid (pauseT a b = capT a b) := by show pauseT a b = capT a b; unfold pauseT; rw [if_neg (by omega)]
  go_enter Tryz.func33, Tryz.ntmps33
  go_wp2
  go_loop [5, 6] (fun p i => ∃ j q : Int, 1 ≤ j ∧ j ≤ b ∧ 1 ≤ q ∧ q ≤ 9223372036854775807 ∧ SameT q (b - j + 1) a b ∧ i = .int .i64 j ∧ p = .int .i64 q) (fun _ i => (b - intOf i).toNat)
  case atStart => exact ⟨1, a, by omega, by omega, by omega, by omega, by show capT _ _ = _; rw [show b - 1 + 1 = b by omega], rfl, rfl⟩
  case round =>
    obtain ⟨j, q, hj, hjb, hq, hqm, hs, rfl, rfl⟩ := hrel
    by_cases hc : j < b ∧ q < 16
    · obtain ⟨hc1, hc2⟩ := hc
      have HS : Hid (SameT (2 * q) (b - (j + 1) + 1) a b) := by
        have hst := @capT_step' q (b - j + 1) hq (by omega)
        rw [show b - j + 1 - 1 = b - (j + 1) + 1 by omega] at hst
        exact hst.trans hs
      clear hs
      go_wp2
      go_round
      case rel => exact ⟨j + 1, 2 * q, by omega, by omega, by omega, by omega, HS.out, by go_num, by go_num⟩
      case measure => simp [intOf]; omega
    · have he : capT q (b - j + 1) = min q 16 := capT_end hq (by omega)
      have HE : Hid (min q 16 = pauseT a b) := by rw [HP.out]; show min q 16 = capT a b; rw [← hs, he]
      clear he hs
      by_cases hq16 : 16 < q
      · have HE' : Hid ((16 : Int) = pauseT a b) := by have := HE.out; rw [show min q 16 = 16 by omega] at this; exact this
        clear HE
        by_cases hc1 : j < b
        · have hq' : 16 ≤ q := by omega
          go_wp2
          go_ret
          exact ⟨ret_intP HE'.out, rfl⟩
        · go_wp2
          go_ret
          exact ⟨ret_intP HE'.out, rfl⟩
      · have HE' : Hid (q = pauseT a b) := by have := HE.out; rw [show min q 16 = q by omega] at this; exact this
        clear HE
        by_cases hc1 : j < b
        · have hq' : 16 ≤ q := by omega
          go_wp2
          go_ret
          exact ⟨ret_intP HE'.out, rfl⟩
        · go_wp2
          go_ret
          exact ⟨ret_intP HE'.out, rfl⟩

set_option maxHeartbeats 2000000 in
/-- the law's function, where its example holds -/
theorem Tryz.clientPauses_any (a b : Int) (ha : a ≤ 9223372036854775807) (hb0 : -9223372036854775808 ≤ b) (hb : b ≤ 9223372036854775807) (w : World)
    (hw : ∀ w, Calls Tryz.prog 31 #[] w fun e w' => e = .returned (.bool true) ∧ Below w.heap.size w w') :
    Calls Tryz.prog 5 #[.int .i64 a, .int .i64 b] w fun e w' => e = .returned (.bool true) ∧ Below w.heap.size w w' := by
  obtain ⟨hp0, hp1⟩ := pauseT_lo a b
  by_cases hbig : 1152921504606846976 ≤ b
  · go_enter Tryz.func5, Tryz.ntmps5
    go_wp2_with (first | (go_at_call 31; refine (hw _).mono ?_; rintro e w1 ⟨rfl, hB⟩) | (go_at_call 32; refine (Tryz.pause_any _ _ (by omega) (by omega) _).mono ?_; rintro e w' ⟨rfl, rfl⟩) | (go_at_call 33; refine (Tryz.pauseRef_any _ _ (by omega) (by omega) _).mono ?_; rintro e w' ⟨rfl, rfl⟩))
    go_ret
    exact ⟨rfl, hB⟩
  · by_cases hb1 : b < 1
    · go_enter Tryz.func5, Tryz.ntmps5
      go_wp2_with (first | (go_at_call 31; refine (hw _).mono ?_; rintro e w1 ⟨rfl, hB⟩) | (go_at_call 32; refine (Tryz.pause_any _ _ (by omega) (by omega) _).mono ?_; rintro e w' ⟨rfl, rfl⟩) | (go_at_call 33; refine (Tryz.pauseRef_any _ _ (by omega) (by omega) _).mono ?_; rintro e w' ⟨rfl, rfl⟩))
      go_ret
      exact ⟨rfl, hB⟩
    · have hm := @pauseT_mono a b (by omega)
      go_enter Tryz.func5, Tryz.ntmps5
      go_wp2_with (first | (go_at_call 31; refine (hw _).mono ?_; rintro e w1 ⟨rfl, hB⟩) | (go_at_call 32; refine (Tryz.pause_any _ _ (by omega) (by omega) _).mono ?_; rintro e w' ⟨rfl, rfl⟩) | (go_at_call 33; refine (Tryz.pauseRef_any _ _ (by omega) (by omega) _).mono ?_; rintro e w' ⟨rfl, rfl⟩))
      go_ret
      exact ⟨rfl, hB⟩
end Go.Proofs
