/- Sorted. Texts joined by program (asm.py): RemIter RemSo RemSo2. -/
import Derived.Shelf.SlIterI.Nil
import Derived.Shelf.SortM.Plain
import Derived.Shelf.SortM.SortNone
import Derived.Test.YtngnkeejmlhdaaaGreatProg
import Derived.Test.YtngnkeejmlhdaaaGreatTold
set_option linter.all false
/-
  DERIVED: THE SHELF's CONTRACTS AT THIS DUMP, IN PLAIN WORDS (tools/lay-plain.mjs out of 'TryzIter.lean', which tools/lay-shelf.mjs wrote): THE SAME DECLARATIONS UNDER THE SAME NAMES: 'import', 'namespace', 'open', 'def', 'theorem' AND NOTHING ELSE: no command of the shelf's: FOR A HAND-IN. Each laying: the table of numbers ('.._ren') and one theorem, a field a fact of the dump's own or the kernel's comparison; each contract: ONE APPLICATION.
-/
namespace Go.Proofs
open Go.Shelf
def Tryz.keysA_ren : Go.Shelf.Ren := ⟨fun | 7 => 470 | 10 => 489 | n => n, fun | 23 => 410 | 26 => 3 | 3 => 534 | 28 => 571 | 0 => 0 | 27 => 570 | 33 => 71 | 4 => 4 | n => n, fun | n => n⟩
theorem Tryz.keysA : Go.Proofs.SlLaysZI.n7 Tryz.prog Tryz.keysA_ren := {
  mixed := by kernel_rfl
  f7 := ⟨Tryz.f470.name, by decide, Tryz.func470.trans (congrArg some (by kernel_rfl))⟩
  f10 := ⟨Tryz.f489.name, by decide, Tryz.func489.trans (congrArg some (by kernel_rfl))⟩
  t0 := Tryz.underlying0
  a0 := Tryz.isAgg0
  z0 := Tryz.sizeOf0
  v0 := Tryz.zeroValue0
  t4 := Tryz.underlying4
  a4 := Tryz.isAgg4
  z4 := Tryz.sizeOf4
  v4 := Tryz.zeroValue4
  t23 := Tryz.underlying410
  a23 := Tryz.isAgg410
  z23 := Tryz.sizeOf410
  v23 := Tryz.zeroValue410
  t26 := Tryz.underlying3
  a26 := Tryz.isAgg3
  z26 := Tryz.sizeOf3
  v26 := Tryz.zeroValue3
  t27 := Tryz.underlying570
  a27 := Tryz.isAgg570
  z27 := Tryz.sizeOf570
  v27 := Tryz.zeroValue570
  t28 := Tryz.underlying571
  a28 := Tryz.isAgg571
  z28 := Tryz.sizeOf571
  v28 := Tryz.zeroValue571
  t33 := Tryz.underlying71
  a33 := Tryz.isAgg71
  z33 := Tryz.sizeOf71
  v33 := Tryz.zeroValue71 }
def Tryz.sortedA_ren : Go.Shelf.Ren := ⟨fun | 6 => 469 | 8 => 488 | 9 => 224 | 11 => 500 | 13 => 330 | 12 => 329 | 23 => 410 | 24 => 411 | 14 => 401 | 15 => 402 | 16 => 403 | 17 => 404 | 18 => 405 | 19 => 406 | 20 => 407 | 21 => 408 | 22 => 409 | 25 => 448 | 26 => 449 | 27 => 450 | 28 => 451 | 29 => 452 | 30 => 453 | 31 => 473 | n => n, fun | 26 => 3 | 28 => 571 | 24 => 97 | 0 => 0 | 3 => 3 | 37 => 209 | 48 => 328 | 50 => 217 | 4 => 4 | 40 => 519 | 39 => 518 | 45 => 523 | 5 => 5 | 9 => 9 | 51 => 554 | 55 => 351 | 57 => 574 | 58 => 323 | 33 => 71 | n => n, fun | n => n⟩
theorem Tryz.sortedA : Go.Proofs.SlLaysZI.n6 Tryz.prog Tryz.sortedA_ren := {
  mixed := by kernel_rfl
  f6 := ⟨Tryz.f469.name, by decide, Tryz.func469.trans (congrArg some (by kernel_rfl))⟩
  f8 := ⟨Tryz.f488.name, by decide, Tryz.func488.trans (congrArg some (by kernel_rfl))⟩
  f11 := ⟨Tryz.f500.name, by decide, Tryz.func500.trans (congrArg some (by kernel_rfl))⟩
  t0 := Tryz.underlying0
  a0 := Tryz.isAgg0
  z0 := Tryz.sizeOf0
  v0 := Tryz.zeroValue0
  t24 := Tryz.underlying97
  a24 := Tryz.isAgg97
  z24 := Tryz.sizeOf97
  v24 := Tryz.zeroValue97
  t26 := Tryz.underlying3
  a26 := Tryz.isAgg3
  z26 := Tryz.sizeOf3
  v26 := Tryz.zeroValue3
  t28 := Tryz.underlying571
  a28 := Tryz.isAgg571
  z28 := Tryz.sizeOf571
  v28 := Tryz.zeroValue571
  i26 := by kernel_rfl }
def Tryz.sortA_ren : Go.Shelf.Ren := ⟨fun | 5 => 224 | 8 => 330 | 7 => 329 | 19 => 410 | 20 => 411 | 10 => 401 | 11 => 402 | 12 => 403 | 13 => 404 | 14 => 405 | 15 => 406 | 16 => 407 | 17 => 408 | 18 => 409 | 30 => 448 | 31 => 449 | 32 => 450 | 33 => 451 | 34 => 452 | 35 => 453 | 40 => 473 | n => n, fun | 23 => 97 | 25 => 3 | 3 => 3 | 32 => 209 | 22 => 97 | 0 => 0 | 44 => 328 | 46 => 217 | 4 => 4 | 36 => 519 | 35 => 518 | 41 => 523 | 5 => 5 | 9 => 9 | 53 => 554 | 57 => 351 | 63 => 574 | 64 => 323 | n => n, fun | n => n⟩
theorem Tryz.sortA : Go.Proofs.SlLaysM.n5 Tryz.prog Tryz.sortA_ren := {
  mixed := by kernel_rfl
  f5 := ⟨Tryz.f224.name, by decide, Tryz.func224.trans (congrArg some (by kernel_rfl))⟩
  f7 := ⟨Tryz.f329.name, by decide, Tryz.func329.trans (congrArg some (by kernel_rfl))⟩
  f8 := Tryz.func330.trans (congrArg some (by kernel_rfl))
  f10 := ⟨Tryz.f401.name, by decide, Tryz.func401.trans (congrArg some (by kernel_rfl))⟩
  f11 := ⟨Tryz.f402.name, by decide, Tryz.func402.trans (congrArg some (by kernel_rfl))⟩
  f12 := ⟨Tryz.f403.name, by decide, Tryz.func403.trans (congrArg some (by kernel_rfl))⟩
  f13 := ⟨Tryz.f404.name, by decide, Tryz.func404.trans (congrArg some (by kernel_rfl))⟩
  f14 := ⟨Tryz.f405.name, by decide, Tryz.func405.trans (congrArg some (by kernel_rfl))⟩
  f15 := ⟨Tryz.f406.name, by decide, Tryz.func406.trans (congrArg some (by kernel_rfl))⟩
  f16 := ⟨Tryz.f407.name, by decide, Tryz.func407.trans (congrArg some (by kernel_rfl))⟩
  f17 := ⟨Tryz.f408.name, by decide, Tryz.func408.trans (congrArg some (by kernel_rfl))⟩
  f18 := ⟨Tryz.f409.name, by decide, Tryz.func409.trans (congrArg some (by kernel_rfl))⟩
  f19 := Tryz.func410.trans (congrArg some (by kernel_rfl))
  f20 := Tryz.func411.trans (congrArg some (by kernel_rfl))
  f30 := ⟨Tryz.f448.name, by decide, Tryz.func448.trans (congrArg some (by kernel_rfl))⟩
  f31 := Tryz.func449.trans (congrArg some (by kernel_rfl))
  f32 := Tryz.func450.trans (congrArg some (by kernel_rfl))
  f33 := ⟨Tryz.f451.name, by decide, Tryz.func451.trans (congrArg some (by kernel_rfl))⟩
  f34 := ⟨Tryz.f452.name, by decide, Tryz.func452.trans (congrArg some (by kernel_rfl))⟩
  f35 := ⟨Tryz.f453.name, by decide, Tryz.func453.trans (congrArg some (by kernel_rfl))⟩
  f40 := ⟨Tryz.f473.name, by decide, Tryz.func473.trans (congrArg some (by kernel_rfl))⟩
  t0 := Tryz.underlying0
  a0 := Tryz.isAgg0
  z0 := Tryz.sizeOf0
  v0 := Tryz.zeroValue0
  t3 := Tryz.underlying3
  a3 := Tryz.isAgg3
  z3 := Tryz.sizeOf3
  v3 := Tryz.zeroValue3
  t4 := Tryz.underlying4
  a4 := Tryz.isAgg4
  z4 := Tryz.sizeOf4
  v4 := Tryz.zeroValue4
  t5 := Tryz.underlying5
  a5 := Tryz.isAgg5
  z5 := Tryz.sizeOf5
  v5 := Tryz.zeroValue5
  t9 := Tryz.underlying9
  a9 := Tryz.isAgg9
  z9 := Tryz.sizeOf9
  v9 := Tryz.zeroValue9
  t22 := Tryz.underlying97
  a22 := Tryz.isAgg97
  z22 := Tryz.sizeOf97
  v22 := Tryz.zeroValue97
  t23 := Tryz.underlying97
  a23 := Tryz.isAgg97
  z23 := Tryz.sizeOf97
  v23 := Tryz.zeroValue97
  t25 := Tryz.underlying3
  a25 := Tryz.isAgg3
  z25 := Tryz.sizeOf3
  v25 := Tryz.zeroValue3
  t32 := Tryz.underlying209
  a32 := Tryz.isAgg209
  z32 := Tryz.sizeOf209
  v32 := Tryz.zeroValue209
  t35 := Tryz.underlying518
  a35 := Tryz.isAgg518
  z35 := Tryz.sizeOf518
  v35 := Tryz.zeroValue518
  t36 := Tryz.underlying519
  a36 := Tryz.isAgg519
  z36 := Tryz.sizeOf519
  v36 := Tryz.zeroValue519
  t41 := Tryz.underlying523
  a41 := Tryz.isAgg523
  z41 := Tryz.sizeOf523
  v41 := Tryz.zeroValue523
  t44 := Tryz.underlying328
  a44 := Tryz.isAgg328
  z44 := Tryz.sizeOf328
  v44 := Tryz.zeroValue328
  t46 := Tryz.underlying217
  a46 := Tryz.isAgg217
  z46 := Tryz.sizeOf217
  v46 := Tryz.zeroValue217
  t53 := Tryz.underlying554
  a53 := Tryz.isAgg554
  z53 := Tryz.sizeOf554
  v53 := Tryz.zeroValue554
  t57 := Tryz.underlying351
  a57 := Tryz.isAgg351
  z57 := Tryz.sizeOf351
  v57 := Tryz.zeroValue351
  t63 := Tryz.underlying574
  a63 := Tryz.isAgg574
  z63 := Tryz.sizeOf574
  v63 := Tryz.zeroValue574
  t64 := Tryz.underlying323
  a64 := Tryz.isAgg323
  z64 := Tryz.sizeOf323
  v64 := Tryz.zeroValue323 }
end Go.Proofs
/-! Keys of a map, sorted. -/
namespace Go.Proofs
open Go.RowKit Go.Maps Go.Sort Go.Shelf

theorem Tryz.sortsA (m : Nat) : AnyZI.SortsIn Tryz.prog Tryz.sortedA_ren Fence.wide m :=
  ⟨fun blk off cap ss W hH hblk hsz => callsIn_wide.2 (AnyM.slices_Sort_int Tryz.sortA blk off cap ss W hH hblk hsz),
   fun p cap W => callsIn_wide.2 (AnyM.slices_Sort_int_none Tryz.sortA p cap W)⟩

set_option maxHeartbeats 1000000 in
theorem Tryz.sorted_keys {H : Type} (bx b nn : Nat) (D0 : DataW H) (R : Value → Option (DataW H × List MemPlace)) (w : World) (hbx : bx < w.heap.size) (hcx : w.cell? ⟨bx, 0, none⟩ = some (.map (some b)))
    (hown : w.ownsMap Tryz.prog 3 R b nn D0) (hmax : Maps.size D0 ≤ maxLen) (hbytes : Maps.size D0 * 8 ≤ 140737488355328) :
    Calls Tryz.prog 469 #[.func (.func 489) #[] #[.pointer (some ⟨bx, 0, none⟩)]] w fun e w' => ∃ (v : Value) (ss : List Int), e = .returned v ∧ ss.Perm (intKeys D0) ∧
      w'.ownsRow w.heap.size 3 1 v ss.length ((ss.mergeSort (fun x y => decide (x ≤ y))).map encZ) ∧ (v = .slice none 0 0 ↔ ss = []) ∧ Below w.heap.size w w' := by
  have hseq : SeqGives Fence.wide 2 Tryz.prog 489 #[.pointer (some ⟨bx, 0, none⟩)] encZ (fun ss => ss.Perm (intKeys D0)) (Maps.size D0) w :=
    AnyZI.keys_gives (ρ := Tryz.keysA_ren) { Tryz.keysA with } Fence.wide _ trivial rfl (by omega) bx b nn D0 _ hbx hcx hown
  have cS := AnyZI.sorted_in Tryz.sortedA Fence.wide 5 trivial trivial trivial trivial rfl (by omega) (Tryz.sortsA _) (enters_of Tryz.func224 (by kernel_rfl) rfl) 489 #[.pointer (some ⟨bx, 0, none⟩)] trivial (enters_of Tryz.func489 (by kernel_rfl) rfl) _ _ hmax hbytes _ hseq
  change CallsIn _ _ Tryz.prog 469 _ _ _ at cS
  refine ((callsIn_wide (n := 5)).1 cS).mono ?_
  rintro e w' ⟨v, ss, h1, h2, h3, h4, h5⟩
  exact ⟨v, ss, h1, h2, h3, h4, h5⟩
set_option maxHeartbeats 1000000 in
theorem Tryz.sorted_nil (bx : Nat) (w : World) (hbx : bx < w.heap.size) (hcx : w.cell? ⟨bx, 0, none⟩ = some (.map none)) :
    Calls Tryz.prog 469 #[.func (.func 489) #[] #[.pointer (some ⟨bx, 0, none⟩)]] w fun e w' => e = .returned (.slice none 0 0) ∧ Below w.heap.size w w' := by
  have hseq : SeqGives Fence.wide 2 Tryz.prog 489 #[.pointer (some ⟨bx, 0, none⟩)] encZ (fun ss : List Int => ss = []) 0 w :=
    AnyZI.keys_gives_nil (ρ := Tryz.keysA_ren) { Tryz.keysA with } Fence.wide _ trivial rfl bx _ hbx hcx
  have cS := AnyZI.sorted_in Tryz.sortedA Fence.wide 5 trivial trivial trivial trivial rfl (by omega) (Tryz.sortsA _) (enters_of Tryz.func224 (by kernel_rfl) rfl) 489 #[.pointer (some ⟨bx, 0, none⟩)] trivial (enters_of Tryz.func489 (by kernel_rfl) rfl) _ 0 (Nat.zero_le _) (by omega) _ hseq
  change CallsIn _ _ Tryz.prog 469 _ _ _ at cS
  refine ((callsIn_wide (n := 5)).1 cS).mono ?_
  rintro e w' ⟨v, ss, rfl, rfl, h3, h4, h5⟩
  exact ⟨by rw [h4.2 rfl], h5⟩
end Go.Proofs
namespace Go.Rem
open Go.Proofs

/-- a block is made somewhere among the new ones -/
theorem HRel.newBeyond {P : Program} {ι : Ren} {H : AH} {w w' : World} (h : HRel P ι H w) {k : ABlk} (hk : k ≠ .dead) (g x : Nat) (hg : w.heap.size ≤ g) (hr : BlkR P ι k x (w'.heap[g]?))
    (hs : w.heap.size ≤ w'.heap.size) (hb : ∀ B, B < w.heap.size → w'.heap[B]? = w.heap[B]?) (ht : w'.tape = w.tape) (ho : w'.os = w.os) (hp : w'.output = w.output) :
    HRel P (add ι H.next (g, x)) (H.new k) w' ∧ Ext ι (add ι H.next (g, x)) H (H.new k) w w' := by
  have hle := h.le_add (g, x)
  have hget : ∀ b k', (H.new k).get b = some k' → (b = H.next ∧ k' = k) ∨ (b ≠ H.next ∧ H.get b = some k') := by
    intro b k' e
    rw [AH.get_new] at e
    split at e
    · next e' => injection e with e; exact .inl ⟨e', e.symm⟩
    · next e' => exact .inr ⟨e', e⟩
  have hι : ∀ b p, b ≠ H.next → add ι H.next (g, x) b = some p → ι b = some p := by
    intro b p hb e; simp only [add] at e; rw [if_neg hb] at e; exact e
  have hlt : ∀ b k' B y, H.get b = some k' → k' ≠ .dead → ι b = some (B, y) → B < w.heap.size := fun b k' B y e1 e2 e3 => h.lt e1 e2 e3
  refine ⟨⟨?_, ?_, ?_, ?_⟩, ⟨hle, hs, by simp, fun B hB _ => hb B hB, ?_, fun b k' e => (hget b k' e).elim (fun h => .inr (by omega)) (fun h => .inl ⟨k', h.2⟩), ht, ho, hp, fun b p e => by
    by_cases hb : b = H.next
    · right; omega
    · exact .inl (hι b p hb e)⟩⟩
  · intro b k' e hk'
    rcases hget b k' e with ⟨rfl, rfl⟩ | ⟨hb', e⟩
    · exact ⟨_, _, add_same _ _ _, hr.mono hle⟩
    · obtain ⟨B, y, e1, e2⟩ := h.blocks b k' e hk'
      refine ⟨B, y, hle _ _ e1, ?_⟩
      rw [hb B (hlt _ _ _ _ e hk' e1)]; exact e2.mono hle
  · intro b b' k1 k2 B y y' e1 d1 e2 d2 i1 i2
    rcases hget b k1 e1 with ⟨rfl, rfl⟩ | ⟨hb, f1⟩ <;> rcases hget b' k2 e2 with ⟨rfl, rfl⟩ | ⟨hb', f2⟩
    · rfl
    · rw [add_same] at i1; injection i1 with i1; injection i1 with i1 _
      have := hlt _ _ _ _ f2 d2 (hι _ _ hb' i2); omega
    · rw [add_same] at i2; injection i2 with i2; injection i2 with i2 _
      have := hlt _ _ _ _ f1 d1 (hι _ _ hb i1); omega
    · exact h.inj b b' k1 k2 B y y' f1 d1 f2 d2 (hι _ _ hb i1) (hι _ _ hb' i2)
  · intro b p e
    by_cases hb : b = H.next
    · subst hb; simp
    · have := h.dom b p (hι _ _ hb e); simp; omega
  · intro b k' e
    rcases hget b k' e with ⟨rfl, _⟩ | ⟨_, e⟩
    · simp
    · have := h.fresh b k' e; simp; omega
  · rintro B ⟨b, k', y, e, hk', i⟩
    rcases hget b k' e with ⟨rfl, rfl⟩ | ⟨hb, e⟩
    · rw [add_same] at i; injection i with i; injection i with i _; right; omega
    · exact .inl ⟨b, k', y, e, hk', hι _ _ hb i⟩

theorem sizeP3 : sizeP Tryz.prog 3 = 1 := by
  obtain ⟨i, d, z, h1, h2, h3, _⟩ := ti3.ok
  unfold sizeP
  rw [h1]; exact h3

/-- how an entry's value is read: not at all -/
noncomputable def soR : Value → Option (DataW Unit × List MemPlace) := fun _ => some (.lit (.bool true), [])

noncomputable def soO (args : List Value) (H : AH) : Option (Value × AH) :=
  match args with
  | [.func (.func n) fs cs] => match fs.toList, cs.toList with
    | [], [.pointer (some ⟨b, 0, none⟩)] => cnd (Nat.beq n 489) (match H.get b with
      | some (.cells (.map none :: _) _ _) => some (.slice none 0 0, H)
      | some (.cells (.map (some mb) :: _) _ _) => match H.get mb with
        | some (.map []) => some (.slice none 0 0, H)
        | some (.map [(.int .i64 (.ofNat k), _)]) => cnd (Nat.ble k 4611686018427387904) (some (.slice (some ⟨H.next, 0, none⟩) 1 3, H.new (.cells [.int .i64 (.ofNat k)] 3 true))) none
        | _ => none
      | _ => none) none
    | _, _ => none
  | _ => none

theorem wf_i64 {k : Nat} (hk : k ≤ 4611686018427387904) : (Lit.int .i64 (.ofNat k)).wf = true := by
  have h3 : IntKind.i64.min = -9223372036854775808 := by decide
  have h4 : IntKind.i64.max = 9223372036854775807 := by decide
  have h1 : IntKind.i64.min ≤ (Int.ofNat k) := by
    rw [h3]; exact Int.le_trans (by decide) (Int.natCast_nonneg k)
  have h2 : (Int.ofNat k) ≤ IntKind.i64.max := by
    rw [h4]; show (k : Int) ≤ _; omega
  simp only [Lit.wf, h1, h2, decide_true, Bool.and_self]
theorem und3 : Tryz.prog.underlying 3 = some (.int .i64) := by kernel_rfl
set_option maxHeartbeats 800000 in
theorem so_ok : OkO Tryz.prog 469 soO := by
  refine ⟨enterable_of Tryz.func469 rfl (by decide), ?_⟩
  intro args H v H' h ι w cargs hH ha
  unfold soO at h
  split at h
  · next n fs cs =>
    obtain ⟨cf, rfl, hcf⟩ := args1 ha
    split at h
    · next b hfs hcs =>
      replace h := cnd_some h
      obtain ⟨hn, h⟩ := h
      have hn : n = 489 := by simpa using hn
      subst hn
      have hfs : fs = #[] := by apply Array.ext'; simpa using hfs
      have hcs : cs = #[.pointer (some ⟨b, 0, none⟩)] := by apply Array.ext'; simpa using hcs
      subst hfs; subst hcs
      obtain ⟨cb, x, hi, rfl⟩ : ∃ B x, ι b = some (B, x) ∧ cf = .func (.func 489) #[] #[.pointer (some ⟨B, 0, none⟩)] := by
        rcases hcf with ⟨⟨hcf⟩⟩
        cases hcf with
        | base hcf => cases hcf
        | @fn _ _ f1 _ c1 h1 h2 =>
          generalize hl1 : f1.toList = l1 at h1
          generalize hl2 : c1.toList = l2 at h2
          cases h1
          cases h2 with
          | @cons _ u _ us r h2 =>
            cases h2
            cases r with
            | @ptr _ Bq _ _ hp =>
              have g1 : f1 = #[] := by apply Array.ext'; exact hl1
              have g2 : c1 = #[.pointer (some ⟨Bq, 0, none⟩)] := by apply Array.ext'; exact hl2
              rw [g1, g2]
              exact ⟨_, _, hp, rfl⟩
      split at h
      · next vs e op hg =>
        injection h with h; injection h with h1 h2; subst h1; subst h2
        obtain ⟨c1, c2, lo, hi', e1, e2, e3, e4, e5⟩ := hH.blk hg (by simp) hi
        have hlt := hH.lt hg (by simp) hi
        cases e2 with
        | @cons _ p _ cs r hr =>
          have hp : p = .map none := by rcases r with ⟨r⟩; cases r; rfl
          subst hp
          have c0 : w.cell? ⟨cb, 0, none⟩ = some (.map none) := by rw [cellAt e1]; rfl
          refine (Tryz.sorted_nil cb w hlt c0).mono ?_
          rintro e' w' ⟨rfl, hB⟩
          exact ⟨ι, _, rfl, .base .nils, hH.later hB.block, Ext.later hB.size hB.block hB.tape hB.os hB.output⟩
      · next mb vs e op hg =>
        obtain ⟨c1, c2, lo, hi', e1, e2, e3, e4, e5⟩ := hH.blk hg (by simp) hi
        have hlt := hH.lt hg (by simp) hi
        cases e2 with
        | @cons _ p _ cs r hr =>
          obtain ⟨mB, y, hm, rfl⟩ : ∃ mB y, ι mb = some (mB, y) ∧ p = .map (some mB) := by
            rcases r with ⟨r⟩
            cases r with
            | map hm => exact ⟨_, _, hm, rfl⟩
          have c0 : w.cell? ⟨cb, 0, none⟩ = some (.map (some mB)) := by rw [cellAt e1]; rfl
          split at h
          · next hgm =>
            injection h with h; injection h with h1 h2; subst h1; subst h2
            obtain ⟨ents, clock, f1, f2, f3⟩ := hH.blk hgm (by simp) hm
            generalize hl : ents.toList = l at f2
            cases f2
            have hE : ents = #[] := by apply Array.ext'; simpa using hl
            subst hE
            have hown : w.ownsMap Tryz.prog 3 soR mB 0 (.map []) := ⟨#[], clock, f1, ⟨by simp, MapKept.stamped_empty clock, by simp⟩, by simp, by simp⟩
            refine (Tryz.sorted_keys cb mB 0 (.map []) soR w hlt c0 hown (by simp [Maps.size]) (by simp [Maps.size])).mono ?_
            rintro e' w' ⟨v, ss, rfl, h1, h2, h3, hB⟩
            have hss : ss = [] := by simpa [intKeys] using h1
            rw [h3.2 hss]
            exact ⟨ι, _, rfl, .base .nils, hH.later hB.block, Ext.later hB.size hB.block hB.tape hB.os hB.output⟩
          · next k v0 hgm =>
            replace h := cnd_some h
            obtain ⟨hk, h⟩ := h
            injection h with h; injection h with h1 h2; subst h1; subst h2
            have hk : k ≤ 4611686018427387904 := by simpa using hk
            obtain ⟨ents, clock, f1, f2, f3⟩ := hH.blk hgm (by simp) hm
            generalize hl : ents.toList = l at f2
            cases f2 with
            | @cons _ en _ es rk hes =>
              cases hes
              have hE : ents = #[en] := by apply Array.ext'; simpa using hl
              subst hE
              have hkey : en.key = .int .i64 (.ofNat k) := (TR.ar rk.1).int_inv
              have hw : (Lit.int .i64 (.ofNat k)).wf = true := wf_i64 hk
              have hrd : WideElems.rd Tryz.prog 3 soR en = some (.int .i64 (.ofNat k), .lit (.bool true)) := by
                unfold WideElems.rd
                rw [hkey, Maps.keyOf_int_mk und3 hw]
                rfl
              have hown : w.ownsMap Tryz.prog 3 soR mB 1 (.map [(.int .i64 (.ofNat k), .lit (.bool true))]) := by
                refine ⟨#[en], clock, f1, ⟨by simp [maxLen], ⟨f3.1, f3.2, by simp⟩, ?_⟩, by simp, ?_⟩
                · intro x hx
                  have : x = en := by simpa using hx
                  subst this; exact ⟨_, hrd⟩
                · simp [WideElems.rg_of hrd, DataW.insert]
              refine (Tryz.sorted_keys cb mB 1 _ soR w hlt c0 hown (by simp [Maps.size, maxLen]) (by simp [Maps.size])).mono ?_
              rintro e' w' ⟨v, ss, rfl, h1, h2, h3, hB⟩
              have hss : ss = [(k : Int)] := by
                have : ss.Perm [(k : Int)] := h1
                exact List.perm_singleton.1 this
              subst hss
              obtain ⟨_, h2⟩ := h2
              rcases h2 with ⟨_, h2⟩ | ⟨g, cap, cur, rfl, hg1, hg2, hg3, hg4, hg5, hg6⟩
              · simp at h2
              · have hlen : cur.toList.length = cap := by simpa using hg5
                have hc : cur.toList = .int .i64 (.ofNat k) :: cur.toList.drop 1 := by
                  have h6 : cur.toList.take 1 = [Value.int .i64 (.ofNat k)] := by simpa using hg6
                  have := List.take_append_drop 1 cur.toList
                  rw [h6] at this
                  exact this.symm
                have hg3 : 1 ≤ cap := hg3
                obtain ⟨k1, k2⟩ := hH.newBeyond (w' := w') (k := .cells [.int .i64 (.ofNat k)] 3 true) (by simp) g (cap - 1) hg1 (by
                  rw [hg2]
                  refine ⟨[.int .i64 (.ofNat k)], cur.toList.drop 1, 0, 0, ?_, .cons (.base (.int _ _)) .nil, (fun h => by cases h), fun _ => ?_, .inl rfl⟩
                  · have hcur : cur = ⟨.int .i64 (.ofNat k) :: cur.toList.drop 1⟩ := by apply Array.ext'; exact hc
                    exact congrArg (fun a => some (Obj.cells a 3 (0, 0))) hcur
                  · rw [sizeP3]; simp; omega) hB.size hB.block hB.tape hB.os hB.output
                refine ⟨_, _, rfl, ?_, k1, k2⟩
                have hsl := BR.sl (ι := add ι H.next (g, cap - 1)) (b := H.next) (o := 0) (l := 1) (c := 3) (add_same _ _ _) (Nat.le_refl _)
                have hcap : capC 3 (cap - 1) = cap := by
                  have : capC 3 (cap - 1) = 1 + (cap - 1) := by simp [capC, capN, capO]
                  omega
                rw [hcap] at hsl
                exact .base hsl
          · cases h
      · cases h
    · cases h
  · cases h
end Go.Rem
