/- Builder. Texts joined by program (asm.py): RemBld RemBld2. -/
import Derived.Test.YtngnkeejmlhdaaaGreatProg
import Derived.WalkKit
import Derived.WalkSpells
import Derived.RegionTactic
import Derived.Lib.Builder
import Derived.Lib.UnsafeStr
import Derived.Lib.MakeNoZero
import Derived.Laws.Externs
import Derived.Laws.IdiomCopy
import Derived.KernelRfl
import Derived.Test.YtngnkeejmlhdaaaGreatOps
set_option linter.all false
/-! The builder's functions that an evaluator doesn't run. -/
namespace Go.Proofs
open Go.RowKit

theorem Tryz.infoBuilder : ∃ j, Tryz.prog.info? 339 = some j ∧ j.size = 2 := by
  have h : (Tryz.prog.info? 339).map (·.size) = some 2 := by kernel_rfl
  exact Option.map_eq_some_iff.1 h

set_option maxHeartbeats 1000000 in
set_option maxRecDepth 100000 in
theorem Tryz.copyCheck_used (b : Nat) (w : World) (h0 : w.cell? ⟨b, 0, none⟩ = some (.pointer (some ⟨b, 0, none⟩))) :
    Calls Tryz.prog 374 #[.pointer (some ⟨b, 0, none⟩)] w fun e w' => e = .returned (.tuple #[]) ∧ w' = w := by
  obtain ⟨j, hj, _⟩ := Tryz.infoBuilder
  go_enter Tryz.func374, Tryz.ntmps374
  go_wp2
  rw [Lib.run_neq_ptr_same w _ Tryz.underlying337 hj]
  go_wp2
  go_end0
  exact ⟨rfl, rfl⟩

set_option maxHeartbeats 1000000 in
set_option maxRecDepth 100000 in
theorem Tryz.copyCheck_fresh (b : Nat) (w : World) (T : TypeId) (n : Nat) (hn : 0 < n) (h0 : w.cell? ⟨b, 0, none⟩ = some (.pointer none)) (hsh : w.shape? b = some (T, n)) (hfz : w.frozen? ⟨b, 0, none⟩ = false)
    (hlies : liesAt Tryz.prog Tryz.prog.depth T (n / Tryz.prog.cellsOf T) 0 339 1 = true) :
    Calls Tryz.prog 374 #[.pointer (some ⟨b, 0, none⟩)] w fun e w' => e = .returned (.tuple #[]) ∧ w' = w.setCell ⟨b, 0, none⟩ (.pointer (some ⟨b, 0, none⟩)) := by
  obtain ⟨j, hj, hjs⟩ := Tryz.infoBuilder
  go_enter Tryz.func374, Tryz.ntmps374
  go_wp2
  rw [Lib.run_to_unsafe w ⟨b, 0, none⟩ Tryz.underlying337 Tryz.underlying548 hj (by rw [hjs]; decide) hsh hn]
  simp only [Result.andThen]
  rw [Oper.upon_value]
  go_wp2
  rw [run_callFunc_extern Tryz.func441 (by kernel_rfl) (by kernel_rfl) (by kernel_rfl) (e := Extern.AbiNoEscape.same) (by kernel_rfl)]
  rw [Lib.run_noEscape]
  simp only [Result.andThen]
  rw [Oper.upon_value]
  go_wp2
  rw [Lib.run_from_unsafe w ⟨b, 0, none⟩ Tryz.underlying548 Tryz.underlying337 hj hsh hlies]
  simp only [Result.andThen]
  rw [Oper.upon_value]
  go_wp2
  go_end0
  exact ⟨rfl, rfl⟩

theorem cellAt {w : World} {b : Nat} {c : Array Value} {T : TypeId} {f : Nat × Nat} (h : w.heap[b]? = some (.cells c T f)) (j : Nat) : w.cell? ⟨b, j, none⟩ = c[j]? := by
  simp [World.cell?, h]
theorem frozAt {w : World} {b : Nat} {c : Array Value} {T : TypeId} {n : Nat} (h : w.heap[b]? = some (.cells c T (n, n))) (j : Nat) : w.frozen? ⟨b, j, none⟩ = false := by
  simp [World.frozen?, h]
theorem Tryz.sizeByte : (Tryz.prog.info? 5).map (·.size) = some 1 := by kernel_rfl
theorem Tryz.cellsByte : Tryz.prog.cellsOf 5 = 1 := by kernel_rfl

set_option maxHeartbeats 2000000 in
set_option maxRecDepth 1000000 in
theorem Tryz.grow_fresh (b n k : Nat) (p : Value) (T : TypeId) (w : World) (hbk : w.heap[b]? = some (.cells #[p, .slice none 0 0] T (k, k))) (hn : n ≤ 281474976710656) :
    Calls Tryz.prog 375 #[.pointer (some ⟨b, 0, none⟩), .int .i64 n] w fun e w' => e = .returned (.tuple #[]) ∧
      ∃ (cs : Array Value) (d : Nat), w' = ({ ((w.setCell ⟨b, 1, none⟩ (.slice (some ⟨w.heap.size, 0, none⟩) 0 cs.size)).alloc (.cells cs 5)) with drawn := d } : World) := by
  obtain ⟨cs, hrun, hle, hmax⟩ := Lib.run_makeNoZero (P := Tryz.prog) w.drew #[3] 330 5 Tryz.underlying330 n hn
  have hw : IntKind.i64.wrap (IntKind.i64.wrap 0 + (n : Int)) = n := by
    rw [IntKind.wrap_i64, IntKind.wrap_i64]
    omega
  have hcall : (callFunc 442 #[.int .i64 (IntKind.i64.wrap (IntKind.i64.wrap 0 + (n : Int)))]).run Tryz.prog w.drew = .ok (.value (.slice (some ⟨w.drew.heap.size, 0, none⟩) n cs.size)) (w.drew.drew.drew.alloc (.cells cs 5)) := by
    rw [hw, run_callFunc_extern Tryz.func442 (by kernel_rfl) (by kernel_rfl) (by kernel_rfl) (e := Extern.BytealgMakeNoZero.makeNoZero #[3] #[330]) (by kernel_rfl), hrun]
    rfl
  have hlt : b < w.heap.size := by
    rcases Nat.lt_or_ge b w.heap.size with h' | h'
    · exact h'
    · simp [Array.getElem?_eq_none h'] at hbk
  have c1 : w.drew.cell? ⟨b, 1, none⟩ = some (.slice none 0 0) := by
    have : w.drew.heap[b]? = _ := hbk
    rw [cellAt this]; rfl
  have hb2 : (w.alloc (.cells cs 5)).heap[b]? = some (.cells #[p, .slice none 0 0] T (k, k)) := (Lib.alloc_old w _ b hlt).trans hbk
  have c2 : (w.alloc (.cells cs 5)).cell? ⟨b, 1, none⟩ = some (.slice none 0 0) := by
    rw [cellAt hb2]; rfl
  have f2 : (w.alloc (.cells cs 5)).frozen? ⟨b, 1, none⟩ = false := frozAt hb2 1
  have hcopy : ∀ W : World, (Builtin.copy_ #[330, 330] 3 #[.slice (some ⟨w.heap.size, 0, none⟩) 0 cs.size, .slice none 0 0]).run Tryz.prog W = .ok (goInt 0) W :=
    fun W => run_copy_none W 330 330 3 5 _ _ 0 cs.size 0 0 Tryz.underlying330 Tryz.sizeByte rfl
  clear hw hbk hb2
  go_enter Tryz.func375, Tryz.ntmps375
  go_wp2
  go_region
  all_goals (go_wp2; go_end0; exact ⟨rfl, cs, _, rfl⟩)

end Go.Proofs
namespace Go.Proofs
open Go.RowKit

set_option maxHeartbeats 2000000 in
set_option maxRecDepth 100000 in
theorem Tryz.String_row (b k g cap : Nat) (p : Value) (rest : List Value) (T : TypeId) (cur : Array Value) (f : Nat × Nat) (l : List UInt8) (w : World)
    (hbk : w.heap[b]? = some (.cells ⟨p :: .slice (some ⟨g, 0, none⟩) l.length cap :: rest⟩ T (k, k))) (hbg : w.heap[g]? = some (.cells cur 5 f)) (hcap : cap ≠ 0) (h0 : l ≠ []) (hle : l.length ≤ cur.size) (h63 : l.length ≤ 9223372036854775807)
    (hcell : ∀ (j : Nat) (x : UInt8), l[j]? = some x → cur[j]? = some (.int .u8 x.toNat)) :
    Calls Tryz.prog 292 #[.pointer (some ⟨b, 0, none⟩)] w fun e w' => e = .returned (.string ⟨l.toArray⟩) ∧ w' = w.drew.freeze ⟨g, 0, none⟩ l.length := by
  have c1 : w.drew.cell? ⟨b, 1, none⟩ = some (.slice (some ⟨g, 0, none⟩) l.length cap) := by
    have : w.drew.heap[b]? = _ := hbk
    rw [cellAt this]; rfl
  have hSD : (Builtin.unsafeSliceData_ #[330] 495 #[.slice (some ⟨g, 0, none⟩) l.length cap]).run Tryz.prog w.drew = .ok (.pointer (some ⟨g, 0, none⟩)) w.drew :=
    Lib.run_unsafeSliceData_row _ _ _ _ _ _ hcap
  have hUS : (Builtin.unsafeString_ #[495, 3] 9 #[.pointer (some ⟨g, 0, none⟩), .int .i64 l.length]).run Tryz.prog w.drew = .ok (.string ⟨l.toArray⟩) (w.drew.freeze ⟨g, 0, none⟩ l.length) := by
    refine Lib.run_unsafeString_row w.drew 495 3 9 5 Tryz.underlying495 Tryz.cellsByte g cur.size (by have hg' : w.drew.heap[g]? = some (.cells cur 5 f) := hbg; simp [World.shape?, hg']) l h0 hle h63 ?_
    intro j x hx
    have hg' : w.drew.heap[g]? = some (.cells cur 5 f) := hbg
    have := hcell j x hx
    rw [Go.Rem.addr_add, Nat.zero_add, cellAt hg']; exact this
  clear hbk hcell
  go_enter Tryz.func292, Tryz.ntmps292
  go_wp2
  go_region
  all_goals (go_wp2; go_ret; exact ⟨rfl, rfl⟩)

set_option maxHeartbeats 2000000 in
set_option maxRecDepth 100000 in
theorem Tryz.String_nil (b k : Nat) (p : Value) (rest : List Value) (T : TypeId) (w : World)
    (hbk : w.heap[b]? = some (.cells ⟨p :: .slice none 0 0 :: rest⟩ T (k, k))) :
    Calls Tryz.prog 292 #[.pointer (some ⟨b, 0, none⟩)] w fun e w' => e = .returned (.string .empty) ∧ w' = w.drew := by
  have c1 : w.drew.cell? ⟨b, 1, none⟩ = some (.slice none 0 0) := by
    have : w.drew.heap[b]? = _ := hbk
    rw [cellAt this]; rfl
  have hSD : (Builtin.unsafeSliceData_ #[330] 495 #[.slice none 0 0]).run Tryz.prog w.drew = .ok (.pointer none) w.drew := rfl
  have hUS : (Builtin.unsafeString_ #[495, 3] 9 #[.pointer none, .int .i64 0]).run Tryz.prog w.drew = .ok (.string .empty) w.drew := Lib.run_unsafeString_none w.drew _ _ _ none
  clear hbk
  go_enter Tryz.func292, Tryz.ntmps292
  go_wp2
  go_region
  all_goals (go_wp2; go_ret; exact ⟨rfl, rfl⟩)
end Go.Proofs
