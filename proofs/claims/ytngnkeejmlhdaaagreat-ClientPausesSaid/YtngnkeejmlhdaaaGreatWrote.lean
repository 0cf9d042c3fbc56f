/- Wrote. Texts joined by program (asm.py): RemWr RemWr2. -/
import Derived.Test.YtngnkeejmlhdaaaGreatProg
import Derived.RangeFuncFrom
import Derived.RangeFuncNested
import Derived.RangeFuncBound
import Derived.RangeFuncBox
import Derived.RangeFuncCalls
import Derived.RangeFuncLeaves
import Derived.Shelf.Abstract
import Derived.WalkKit
import Derived.OwnWalkIn
import Derived.TacticsInMore
import Derived.LoopNIn
import Derived.LoopIn
import Derived.KernelRfl
/-! What the innermost of one level wrote. -/
namespace Go.Proofs
open Go.RowKit Go.Shelf
attribute [local go_sem] Oper.semAt_some

set_option maxRecDepth 100000 in
set_option maxHeartbeats 2000000 in
theorem Tryz.bw1_in (F : Fence) (n : Nat) (h7 : F.fn 494) (hro : F.round = none) (hn : 1 ≤ n) (l Bs n₀ b off cap : Nat) (m : Option Nat) (J Jx : List Unit → World → Prop)
    (hY : ∀ pre x W, J pre W → pre.length < 1 → YieldAt F (n - 1) Tryz.prog l #[.int .i64 0, .map m] W fun e W' =>
      (e = .returned (.bool true) ∧ J (pre ++ [x]) W' ∧ Below n₀ W W') ∨ (e = .returned (.bool false) ∧ Jx (pre ++ [x]) W'))
    (W : World) (hBs : W.cell? ⟨Bs, 0, none⟩ = some (.slice (some ⟨b, off, none⟩) 1 cap)) (hc : W.cell? ⟨b, off, none⟩ = some (.map m)) (h0 : J [] W) :
    CallsIn F n Tryz.prog 494 #[.func (.yield l) #[] #[], .pointer (some ⟨Bs, 0, none⟩)] W fun e W' => (∃ v, e = .returned v) ∧ ((∃ ys, ys = [()] ∧ J ys W') ∨ (∃ pre, pre = [()] ∧ Jx pre W')) := by
  refine callsIn_of_wp Tryz.func494 rfl h7 ?_ hro
  simp only [Tryz.ntmps494, List.size_toArray, List.length_cons, List.length_nil, Nat.reduceAdd, Nat.reduceSub, Array.replicate_succ, Array.replicate_zero, List.push_toArray, List.append_toArray, List.nil_append, List.cons_append]
  gi_wp2
  gi_loopw [3] (fun i wr => (i = .int .i64 0 ∧ wr = W) ∨ (i = .int .i64 (-1) ∧ J [()] wr)) (fun i _ => (intOf i + 1).toNat)
  case atStart => exact .inl ⟨rfl, rfl⟩
  case round =>
    rcases hrel with ⟨rfl, rfl⟩ | ⟨rfl, hJ1⟩
    · obtain ⟨fn, tmps, assign, body, hy, hR⟩ := hY [] () wr h0 (by simp)
      gi_wp2
      refine hR.mono ?_
      rintro e W3 (⟨rfl, hJ3, hk3⟩ | ⟨rfl, hJx3⟩)
      · gi_wp2
        go_roundw
        case rel => exact .inr ⟨by rfl, hJ3⟩
        case measure => simp [intOf]
      · gi_wp2
        refine bodyPost_ret (results_none rfl _ _ _) rfl ?_
        exact ⟨⟨_, rfl⟩, .inr ⟨_, rfl, hJx3⟩⟩
    · gi_wp2
      go_end0
      exact ⟨⟨_, rfl⟩, .inl ⟨_, rfl, hJ1⟩⟩

set_option maxHeartbeats 1000000 in
theorem Tryz.bw_in (F : Fence) (n : Nat) (h5 : F.fn 477) (hro : F.round = none) (a : Option Addr) (len cap : Nat) (w : World) :
    CallsIn F n Tryz.prog 477 #[.slice a len cap] w fun e w' => e = .returned (.func (.func 494) #[] #[.pointer (some ⟨w.heap.size, 0, none⟩)]) ∧ w' = w.alloc (.cells #[.slice a len cap] 412) := by
  refine callsIn_of_wp Tryz.func477 rfl h5 ?_ hro
  simp only [Tryz.ntmps477, List.size_toArray, List.length_cons, List.length_nil, Nat.reduceAdd, Nat.reduceSub, Array.replicate_succ, Array.replicate_zero, List.push_toArray, List.append_toArray, List.nil_append, List.cons_append]
  gi_wp2
  go_ret
  exact ⟨rfl, rfl⟩

theorem Tryz.bw_stops (F : Fence) (n : Nat) (h7 : F.fn 494) (hro : F.round = none) (hn : 1 ≤ n) (Bs n₀ b off cap : Nat) (m : Option Nat) (w : World) (hBs : Bs < w.heap.size) (hb : b < w.heap.size)
    (hc : w.cell? ⟨Bs, 0, none⟩ = some (.slice (some ⟨b, off, none⟩) 1 cap)) (hm : w.cell? ⟨b, off, none⟩ = some (.map m)) :
    SeqStopsK F n Tryz.prog 494 #[.pointer (some ⟨Bs, 0, none⟩)] (fun _ : Unit => #[Value.int .i64 0, .map m]) (Below n₀) (fun ys => ys = [()]) (fun pre => pre = [()]) 1 w := fun l J Jx W hW _ _ hY h0 =>
  Tryz.bw1_in F n h7 hro hn l Bs n₀ b off cap m J Jx hY W ((hW.cell (p := ⟨Bs, 0, none⟩) hBs).trans hc) ((hW.cell (p := ⟨b, off, none⟩) hb).trans hm) h0
end Go.Proofs
namespace Go.Proofs
open Go.RowKit Go.Shelf
attribute [local go_sem] Oper.semAt_some
theorem cell_far (w : World) (p a : Addr) (v : Value) (h : p.block ≠ a.block) : (w.setCell p v).cell? a = w.cell? a := by
  simp [World.cell?, World.setCell, Array.getElem?_modify, h]
theorem cell_of_box_l {W : World} {B : Nat} {v : Value} {t : TypeId} (h : W.heap[B]? = some (.cells #[v] t (0, 0))) : W.cell? ⟨B, 0, none⟩ = some v ∧ W.frozen? ⟨B, 0, none⟩ = false := by
  constructor <;> simp [World.cell?, World.frozen?, h]
theorem cell_new_l (W : World) (v : Value) (t : TypeId) : (W.alloc (.cells #[v] t)).cell? ⟨W.heap.size, 0, none⟩ = some v ∧ (W.alloc (.cells #[v] t)).frozen? ⟨W.heap.size, 0, none⟩ = false :=
  cell_of_box_l (World.alloc_heap_new W _)
theorem cell_alloc_l {W : World} {a : Addr} {v : Value} (o : Obj) (h : W.cell? a = some v) : (W.alloc o).cell? a = some v := cell_kept h (World.grownBy_alloc W o none) (fun r e => by cases e)
theorem frozen_alloc_l {W : World} {a : Addr} {v : Value} (o : Obj) (h : W.cell? a = some v) (hf : W.frozen? a = false) : (W.alloc o).frozen? a = false := (frozen_kept h (World.grownBy_alloc W o none) (fun r e => by cases e)).trans hf

set_option maxRecDepth 100000 in
set_option maxHeartbeats 4000000 in
theorem Tryz.written_in (F : Fence) (n : Nat) (h3 : F.fn 461) (h5 : F.fn 477) (h6 : F.fn 494) (hro : F.round = none) (hn : 3 ≤ n) (nb b off cap : Nat) (m : Option Nat) (c v : Int) (t : Bool) (ht : t = false → v = 0) (w : World)
    (hnb : w.cell? ⟨nb, 1, none⟩ = some (.slice (some ⟨b, off, none⟩) 1 cap)) (hb : b < w.heap.size) (hm : w.cell? ⟨b, off, none⟩ = some (.map m))
    (hlk : ∀ W, Below w.heap.size w W → (Instr.lookup 411 (.map m) (.int .i64 c) true).run Tryz.prog W = .ok (.tuple #[.int .i64 v, .bool t]) W) :
    CallsIn F n Tryz.prog 461 #[.pointer (some ⟨nb, 0, none⟩), .int .i64 c] w fun e W' => e = .returned (.tuple #[.int .i64 v, .bool t]) ∧ Below w.heap.size w W' := by
  have h1 : 1 ≤ n := by omega
  refine callsIn_of_wp_marks Tryz.func461 rfl h3 ?_ hro
  simp only [Tryz.ntmps461, List.size_toArray, List.length_cons, List.length_nil, Nat.reduceAdd, Nat.reduceSub, Array.replicate_succ, Array.replicate_zero, List.push_toArray, List.append_toArray, List.nil_append, List.cons_append]
  have hnlt : nb < w.heap.size := by
    rcases Nat.lt_or_ge nb w.heap.size with h | h
    · exact h
    · simp [World.cell?, Array.getElem?_eq_none h] at hnb
  have c0 := cell_new_l w (.int .i64 c) 3
  have c1 := cell_new_l (w.alloc (.cells #[.int .i64 c] 3)) (.int .i64 0) 3
  have c2 := cell_new_l ((w.alloc (.cells #[.int .i64 c] 3)).alloc (.cells #[.int .i64 0] 3)) (.bool false) 4
  have c3 := cell_new_l (((w.alloc (.cells #[.int .i64 c] 3)).alloc (.cells #[.int .i64 0] 3)).alloc (.cells #[.bool false] 4)) (.slice (some ⟨b, off, none⟩) 1 cap) 412
  simp only [World.size_alloc] at c1 c2 c3
  have hB1 : Below w.heap.size w (((w.alloc (.cells #[.int .i64 c] 3)).alloc (.cells #[.int .i64 0] 3)).alloc (.cells #[.bool false] 4)) := (((Below.refl _ w).alloc (Nat.le_refl _) _).alloc (by simp) _).alloc (by simp; omega) _
  have hB0 : Below w.heap.size w ((((w.alloc (.cells #[.int .i64 c] 3)).alloc (.cells #[.int .i64 0] 3)).alloc (.cells #[.bool false] 4)).alloc (.cells #[.slice (some ⟨b, off, none⟩) 1 cap] 412)) := hB1.alloc (by simp; omega) _
  have hnb1 := (hB1.cell (p := ⟨nb, 1, none⟩) hnlt).trans hnb
  have hm0 := (hB0.cell (p := ⟨b, off, none⟩) hb).trans hm
  gi_wp2_with (gi_at_call 477; refine (Tryz.bw_in F (n - 1) h5 hro _ _ _ _).mono ?_; rintro e w' ⟨rfl, rfl⟩)
  refine wpIn_rangeFunc_ownF hro h1 (gf := 494) (lb := #[.pointer (some ⟨w.heap.size + 1 + 1 + 1, 0, none⟩)]) rfl h6 (enters_of Tryz.func494 (by kernel_rfl) rfl)
    (Tryz.bw_stops F (n - 1) h6 hro (by omega) (w.heap.size + 1 + 1 + 1) w.heap.size b off cap m _ (by simp) (by simp; omega) c3.1 hm0) belowK_t (belowK_b (by simp; omega)) (Below.refl _ _) (fun _ => rfl)
    (fun pre W => ((pre ≠ [] → t = false) ∧ W.cell? ⟨w.heap.size, 0, none⟩ = some (.int .i64 c) ∧ W.cell? ⟨w.heap.size + 1, 0, none⟩ = some (.int .i64 0) ∧ W.frozen? ⟨w.heap.size + 1, 0, none⟩ = false ∧ W.cell? ⟨w.heap.size + 1 + 1, 0, none⟩ = some (.bool false) ∧ W.frozen? ⟨w.heap.size + 1 + 1, 0, none⟩ = false) ∧ Below w.heap.size w W)
    (fun cd pre W => (cd = .ret ∧ t = true ∧ W.cell? ⟨w.heap.size + 1, 0, none⟩ = some (.int .i64 v) ∧ W.cell? ⟨w.heap.size + 1 + 1, 0, none⟩ = some (.bool true)) ∧ Below w.heap.size w W)
    (OwnFrom.and (Own.from (fun s A B row hs hg hr => ⟨hs.1, cell_kept hs.2.1 hg hr, cell_kept hs.2.2.1 hg hr, (frozen_kept hs.2.2.1 hg hr).trans hs.2.2.2.1, cell_kept hs.2.2.2.2.1 hg hr, (frozen_kept hs.2.2.2.2.1 hg hr).trans hs.2.2.2.2.2⟩) _) (ownFrom_below (Nat.le_refl _) (by simp; omega)))
    (fun cd => OwnFrom.and (Own.from (fun s A B row hs hg hr => ⟨hs.1, hs.2.1, cell_kept hs.2.2.1 hg hr, cell_kept hs.2.2.2 hg hr⟩) _) (ownFrom_below (Nat.le_refl _) (by simp; omega)))
    ⟨⟨fun h => absurd rfl h, cell_alloc_l _ (cell_alloc_l _ (cell_alloc_l _ c0.1)), cell_alloc_l _ (cell_alloc_l _ c1.1), frozen_alloc_l _ (cell_alloc_l _ c1.1) (frozen_alloc_l _ c1.1 c1.2), cell_alloc_l _ c2.1, frozen_alloc_l _ c2.1 c2.2⟩, hB0⟩
    (fun _ => { tmps := #[.pointer (some ⟨nb, 0, none⟩), .int .i64 c, undef, .pointer (some ⟨w.heap.size, 0, none⟩), .pointer (some ⟨w.heap.size + 1, 0, none⟩), .pointer (some ⟨w.heap.size + 1 + 1, 0, none⟩), undef, .map m, undef, undef,
      .pointer (some ⟨nb, 0, none⟩), .pointer (some ⟨nb, 0, none⟩), .pointer (some ⟨nb, 1, none⟩), .slice (some ⟨b, off, none⟩) 1 cap, .func (.func 494) #[] #[.pointer (some ⟨w.heap.size + 1 + 1 + 1, 0, none⟩)], .int .i64 0, .map m, undef, undef, undef, undef, undef, undef, undef, undef], defers := [] }) ?assign ?body ?done ?stop
  case assign =>
    intro l x W K hK
    gi_wp2
    exact hK
  case body =>
    rintro l pre x W ⟨⟨hp, hcw, hcr, hfr, hcb, hfb⟩, hB⟩ _
    have hl := hlk W hB
    cases t with
    | true =>
      gi_wp2
      have e2 := World.cell?_setCell_same' W ⟨w.heap.size + 1, 0, none⟩ (.int .i64 v) (by rw [hcr]; rfl)
      have e3 : (W.setCell ⟨w.heap.size + 1, 0, none⟩ (.int .i64 v)).cell? ⟨w.heap.size + 1 + 1, 0, none⟩ = some (.bool false) := by
        exact (cell_far _ _ _ _ (by simp)).trans hcb
      exact ⟨(KeepsOthers.setCell _ _ _).trans (KeepsOthers.setCell _ _ _), ⟨rfl, (cell_far _ _ _ _ (by simp)).trans e2, World.cell?_setCell_same' _ _ _ (by rw [e3]; rfl)⟩, (hB.setCell (p := ⟨w.heap.size + 1, 0, none⟩) (by simp) _).setCell (p := ⟨w.heap.size + 1 + 1, 0, none⟩) (by simp; omega) _⟩
    | false =>
      gi_wp2
      exact ⟨KeepsOthers.refl _, Below.refl _ _, ⟨hcw, hcr, hfr, hcb, hfb⟩, hB⟩
  case done =>
    rintro D ys W hD rfl ⟨⟨hne, _, hcr, hfr, hcb, hfb⟩, hB⟩ hK
    have ht0 := hne (by simp)
    subst ht0
    have hv := ht rfl
    subst hv
    gi_wp2
    have e2 := World.cell?_setCell_same' W ⟨w.heap.size + 1, 0, none⟩ (.int .i64 0) (by rw [hcr]; rfl)
    have e3 : (W.setCell ⟨w.heap.size + 1, 0, none⟩ (.int .i64 0)).cell? ⟨w.heap.size + 1 + 1, 0, none⟩ = some (.bool false) := by
      exact (cell_far _ _ _ _ (by simp)).trans hcb
    have e4 : ((W.setCell ⟨w.heap.size + 1, 0, none⟩ (.int .i64 0)).setCell ⟨w.heap.size + 1 + 1, 0, none⟩ (.bool false)).cell? ⟨w.heap.size + 1, 0, none⟩ = some (.int .i64 0) := by
      exact (cell_far _ _ _ _ (by simp)).trans e2
    have e5 := World.cell?_setCell_same' (W.setCell ⟨w.heap.size + 1, 0, none⟩ (.int .i64 0)) ⟨w.heap.size + 1 + 1, 0, none⟩ (.bool false) (by rw [e3]; rfl)
    have hK' := ((KeepsOthers.setCell W ⟨w.heap.size + 1, 0, none⟩ (.int .i64 0)).trans (KeepsOthers.setCell _ ⟨w.heap.size + 1 + 1, 0, none⟩ (.bool false))).same D _ hK rfl
    refine ⟨by simp, .inl ⟨_, _, rfl, run_takeDeferred hK', ?_⟩⟩
    have hc4 := cell_kept e4 (grownBy_putObj' _ D (.deferred none)) (fun r e => by cases e; exact ⟨_, hK', rfl⟩)
    have hc5 := cell_kept e5 (grownBy_putObj' _ D (.deferred none)) (fun r e => by cases e; exact ⟨_, hK', rfl⟩)
    refine ⟨.tuple #[.int .i64 0, .bool false], ?_, rfl, ((hB.setCell (p := ⟨w.heap.size + 1, 0, none⟩) (by simp) _).setCell (p := ⟨w.heap.size + 1 + 1, 0, none⟩) (by simp; omega) _).trans (belowK_b (w := w) (Nat.le_refl _) _ D _ _ (by simp at hD; omega) hK' rfl rfl)⟩
    simp [results, Tryz.f461, go_sem, hc4, hc5]
  case stop =>
    rintro D cd pre W hD hpre ⟨⟨rfl, hin, hcr, hcb⟩, hB⟩ hK
    subst hin
    gi_wp2
    refine ⟨by simp, .inl ⟨_, _, rfl, run_takeDeferred hK, ?_⟩⟩
    have hc4 := cell_kept hcr (grownBy_putObj' _ D (.deferred none)) (fun r e => by cases e; exact ⟨_, hK, rfl⟩)
    have hc5 := cell_kept hcb (grownBy_putObj' _ D (.deferred none)) (fun r e => by cases e; exact ⟨_, hK, rfl⟩)
    refine ⟨.tuple #[.int .i64 v, .bool true], ?_, rfl, hB.trans (belowK_b (w := w) (Nat.le_refl _) W D _ _ (by simp at hD; omega) hK rfl rfl)⟩
    simp [results, Tryz.f461, go_sem, hc4, hc5]
end Go.Proofs
