/- Draws. Texts joined by program (asm.py): RemDrA RemDrB RemDrC RemDrD RemDrE RemDrF. -/
import Derived.Test.YtngnkeejmlhdaaaGreatRuns
import Derived.Orders
set_option linter.all false
/-! Regions whose order is open: heaps, operands, the run in the order of the text as a chain. -/
namespace Go.Rem

theorem HRel.sub {P : Program} {ι : Ren} {G H : AH} {w : World} (h : HRel P ι G w) (hs : ∀ b, H.get b = none ∨ H.get b = G.get b) (hn : H.next = G.next) : HRel P ι H w := by
  have hsub : ∀ b k, H.get b = some k → G.get b = some k := fun b k e => by
    rcases hs b with h | h
    · rw [h] at e; cases e
    · rw [← h]; exact e
  exact ⟨fun b k e => h.blocks b k (hsub b k e), fun b b' k k' B x x' e1 d1 e2 d2 => h.inj b b' k k' B x x' (hsub b k e1) d1 (hsub b' k' e2) d2,
    fun b p e => hn ▸ h.dom b p e, fun b k e => hn ▸ h.fresh b k (hsub b k e)⟩
theorem HRel.same {P : Program} {ι : Ren} {G H : AH} {w : World} (h : HRel P ι G w) (hs : ∀ b, H.get b = G.get b) (hn : H.next = G.next) : HRel P ι H w :=
  h.sub (fun b => .inr (hs b)) hn
theorem Ext.same {ι ι' : Ren} {H G G' : AH} {w w' : World} (h : Ext ι ι' H G w w') (hs : ∀ b, G'.get b = G.get b) (hn : G'.next = G.next) : Ext ι ι' H G' w w' :=
  ⟨h.le, h.size, hn ▸ h.next, h.junk, fun B ⟨b, k, x, e, d, i⟩ => h.range B ⟨b, k, x, hs b ▸ e, d, i⟩, fun b k e => h.news b k (hs b ▸ e), h.tape, h.os, h.output, h.only⟩

/-- what an operation doesn't need stays as it is -/
theorem frame {P : Program} {ι ι' : Ren} {G H H' G' : AH} {w w' : World} (hG : HRel P ι G w) (hs : ∀ b, H.get b = none ∨ H.get b = G.get b) (hn : H.next = G.next)
    (h' : HRel P ι' H' w') (hx : Ext ι ι' H H' w w') (hg1 : ∀ b k, H.get b = none → G.get b = some k → G'.get b = some k)
    (hg2 : ∀ b, (H.get b ≠ none ∨ G.get b = none) → G'.get b = H'.get b) (hn' : G'.next = H'.next) : HRel P ι' G' w' ∧ Ext ι ι' G G' w w' := by
  have hsub : ∀ b k, H.get b = some k → G.get b = some k := fun b k e => by
    rcases hs b with h | h
    · rw [h] at e; cases e
    · rw [← h]; exact e
  have hc : ∀ b k, G'.get b = some k → (H.get b = none ∧ G.get b = some k) ∨ H'.get b = some k := by
    intro b k e
    cases hb : H.get b with
    | some q => rw [hg2 b (.inl (by rw [hb]; simp))] at e; exact .inr e
    | none =>
      cases hq : G.get b with
      | none => rw [hg2 b (.inr hq)] at e; exact .inr e
      | some q => rw [hg1 b q hb hq] at e; injection e with e; subst e; exact .inl ⟨rfl, rfl⟩
  have hX : ∀ b k, H.get b = none → G.get b = some k → k ≠ .dead → ∃ B x, ι b = some (B, x) ∧ BlkR P ι k x (w.heap[B]?) ∧ B < w.heap.size ∧ ¬ Live H ι B := by
    intro b k e1 e2 d
    obtain ⟨B, x, i1, i2⟩ := hG.blocks b k e2 d
    refine ⟨B, x, i1, i2, hG.lt e2 d i1, ?_⟩
    rintro ⟨c, q, y, f1, f2, f3⟩
    have := hG.inj b c k q B x y e2 d (hsub c q f1) f2 i1 f3
    subst this
    rw [e1] at f1; cases f1
  have hle := hx.le
  refine ⟨⟨?_, ?_, ?_, ?_⟩, ⟨hle, hx.size, by rw [hn', ← hn]; exact hx.next, ?_, ?_, ?_, hx.tape, hx.os, hx.output, fun b p e => by rw [← hn]; exact hx.only b p e⟩⟩
  · intro b k e d
    rcases hc b k e with ⟨e1, e2⟩ | e
    · obtain ⟨B, x, i1, i2, i3, i4⟩ := hX b k e1 e2 d
      exact ⟨B, x, hle _ _ i1, by rw [hx.junk B i3 i4]; exact i2.mono hle⟩
    · exact h'.blocks b k e d
  · intro b b' k k' B x x' e d e' d' i i'
    have key : ∀ c q C y c' q' y', H.get c = none → G.get c = some q → q ≠ .dead → ι' c = some (C, y) → H'.get c' = some q' → q' ≠ .dead → ι' c' = some (C, y') → False := by
      intro c q C y c' q' y' f1 f2 f3 f4 f5 f6 f7
      obtain ⟨B0, x0, i1, i2, i3, i4⟩ := hX c q f1 f2 f3
      have := hle _ _ i1
      rw [f4] at this; injection this with this; injection this with this _; subst this
      rcases hx.range C ⟨c', q', y', f5, f6, f7⟩ with l | l
      · exact i4 l
      · omega
    rcases hc b k e with ⟨e1, e2⟩ | e <;> rcases hc b' k' e' with ⟨e1', e2'⟩ | e'
    · obtain ⟨B0, x0, i1, _⟩ := hX b k e1 e2 d
      obtain ⟨B1, x1, i1', _⟩ := hX b' k' e1' e2' d'
      have g := hle _ _ i1; rw [i] at g; injection g with g; injection g with g g2
      have g' := hle _ _ i1'; rw [i'] at g'; injection g' with g'; injection g' with g' g2'
      subst g; subst g'
      exact hG.inj b b' k k' B x0 x1 e2 d e2' d' i1 i1'
    · exact (key b k B x b' k' x' e1 e2 d i e' d' i').elim
    · exact (key b' k' B x' b k x e1' e2' d' i' e d i).elim
    · exact h'.inj b b' k k' B x x' e d e' d' i i'
  · intro b p e; rw [hn']; exact h'.dom b p e
  · intro b k e
    rw [hn']
    rcases hc b k e with ⟨_, e2⟩ | e
    · have := hG.fresh b k e2; have := hx.next; omega
    · exact h'.fresh b k e
  · intro B hB hl
    exact hx.junk B hB fun ⟨b, k, x, e, d, i⟩ => hl ⟨b, k, x, hsub b k e, d, i⟩
  · rintro B ⟨b, k, y, e, d, i⟩
    rcases hc b k e with ⟨e1, e2⟩ | e
    · obtain ⟨B0, x0, i1, _⟩ := hX b k e1 e2 d
      have g := hle _ _ i1; rw [i] at g; injection g with g; injection g with g g2; subst g
      exact .inl ⟨b, k, x0, e2, d, i1⟩
    · rcases hx.range B ⟨b, k, y, e, d, i⟩ with ⟨c, q, z, f1, f2, f3⟩ | l
      · exact .inl ⟨c, q, z, hsub c q f1, f2, f3⟩
      · exact .inr l
  · intro b k e
    rcases hc b k e with ⟨_, e2⟩ | e
    · exact .inl ⟨k, e2⟩
    · rcases hx.news b k e with ⟨q, f⟩ | l
      · exact .inl ⟨q, hsub b q f⟩
      · right; rw [← hn]; exact l

/-! ### operands -/
theorem evs_congr {ρ ρ' : Tr Value} : ∀ xs : List AOpd, (∀ x ∈ xs, opd ρ x = opd ρ' x) → evs ρ xs = evs ρ' xs := by
  intro xs
  induction xs with
  | nil => intro _; rfl
  | cons x xs ih =>
    intro h
    show @Option.rec _ (fun _ => Option (List Value)) none (fun v => mapO (v :: ·) (evs ρ xs)) (opd ρ x) = @Option.rec _ (fun _ => Option (List Value)) none (fun v => mapO (v :: ·) (evs ρ' xs)) (opd ρ' x)
    rw [h x (by simp), ih fun y hy => h y (by simp [hy])]
theorem evps_congr {ρ ρ' : Tr Value} : ∀ xs : List (Nat × Nat × AOpd), (∀ x ∈ partsO xs, opd ρ x = opd ρ' x) → evps ρ xs = evps ρ' xs := by
  intro xs
  induction xs with
  | nil => intro _; rfl
  | cons x xs ih =>
    intro h
    have h1 : opd ρ x.2.2 = opd ρ' x.2.2 := h _ (by show x.2.2 ∈ x.2.2 :: partsO xs; simp)
    have h2 := ih fun y hy => h y (by show y ∈ x.2.2 :: partsO xs; simp [hy])
    show @Option.rec _ (fun _ => Option (List (Nat × Nat × Value))) none (fun v => mapO ((x.1, x.2.1, v) :: ·) (evps ρ xs)) (opd ρ x.2.2) = @Option.rec _ (fun _ => Option (List (Nat × Nat × Value))) none (fun v => mapO ((x.1, x.2.1, v) :: ·) (evps ρ' xs)) (opd ρ' x.2.2)
    rw [h1, h2]
theorem evo_congr {ρ ρ' : Tr Value} (x : Option AOpd) (h : ∀ y, x = some y → opd ρ y = opd ρ' y) : evo ρ x = evo ρ' x := by
  cases x with
  | none => rfl
  | some x => show mapO some (opd ρ x) = mapO some (opd ρ' x); rw [h x rfl]
theorem mem_consO {x : Option AOpd} {l : List AOpd} {y : AOpd} : y ∈ consO x l ↔ x = some y ∨ y ∈ l := by
  cases x with
  | none => simp [consO]
  | some x => simp [consO, eq_comm]
theorem opA_congr {ρ ρ' : Tr Value} {op : AOp} (h : ∀ x ∈ opdsOf op, opd ρ x = opd ρ' x) (H : AH) : opA ρ H op = opA ρ' H op := by
  cases op with
  | makeFunc fn f c =>
    have h : ∀ x ∈ f ++ c, opd ρ x = opd ρ' x := by rw [← appL_eq]; exact h
    simp only [opA]
    rw [evs_congr f fun x hx => h x (by simp [hx]), evs_congr c fun x hx => h x (by simp [hx])]
  | build z ps => simp only [opA]; rw [evps_congr ps h]
  | buildSlice n z e ps => simp only [opA]; rw [evps_congr ps h]
  | call f as => simp only [opA]; rw [evs_congr as h]
  | callv f as =>
    simp only [opA]
    rw [evs_congr as fun x hx => h x (List.mem_cons_of_mem _ hx), h f (List.mem_cons_self ..)]
  | minmax mx l => simp only [opA]; rw [evs_congr l h]
  | slice d s n x lo hi mx =>
    simp only [opA]
    have h' : ∀ y, y = x ∨ (lo = some y ∨ (hi = some y ∨ (mx = some y ∨ y ∈ ([] : List AOpd)))) → opd ρ y = opd ρ' y := by
      intro y hy
      refine h y ?_
      show y ∈ x :: consO lo (consO hi (consO mx []))
      rw [List.mem_cons, mem_consO, mem_consO, mem_consO]; exact hy
    rw [h' x (.inl rfl), evo_congr lo fun y e => h' y (.inr (.inl e)), evo_congr hi fun y e => h' y (.inr (.inr (.inl e))), evo_congr mx fun y e => h' y (.inr (.inr (.inr (.inl e))))]
  | _ => simp only [opA] <;> (simp only [opdsOf, List.mem_cons, List.not_mem_nil, or_false, forall_eq_or_imp, forall_eq] at h; simp [h])

/-! ### classes -/
theorem outH_some {x : Option AH} {q : AOut} {H' : AH} (h : outH x = some (q, H')) : x = some H' ∧ q = .val undef := by
  cases x with
  | none => cases h
  | some y =>
    change some (AOut.val undef, y) = some (q, H') at h
    injection h with h; injection h with h1 h2
    exact ⟨by rw [h2], h1.symm⟩
theorem sliceO_eq (d s n : Nat) (H : AH) (x : Option Value) (lo hi mx : Option (Option Value)) : ∃ y, (∀ H, sliceO d s n H x lo hi mx = outV H y) := by
  cases x with
  | none => exact ⟨none, fun _ => rfl⟩
  | some x => cases lo with
    | none => exact ⟨none, fun _ => rfl⟩
    | some lo => cases hi with
      | none => exact ⟨none, fun _ => rfl⟩
      | some hi => cases mx with
        | none => exact ⟨none, fun _ => rfl⟩
        | some mx => exact ⟨sliceA d s n x lo hi mx, fun _ => rfl⟩
/-- what reads nothing doesn't hang on the heap -/
theorem cls0_eq {ρ : Tr Value} {op : AOp} (hc : clsOf op = 0) : ∃ y, ∀ H, opA ρ H op = outV H y := by
  cases op with
  | mv x => exact ⟨_, fun _ => rfl⟩
  | pick c a b =>
    cases hv : opd ρ c with
    | none => exact ⟨none, fun H => by show pickA H (opd ρ c) _ _ = _; rw [hv]; rfl⟩
    | some v =>
      cases v with
      | bool t => cases t with
        | true => exact ⟨opd ρ a, fun H => by show pickA H (opd ρ c) _ _ = _; rw [hv]; rfl⟩
        | false => exact ⟨opd ρ b, fun H => by show pickA H (opd ρ c) _ _ = _; rw [hv]; rfl⟩
      | _ => exact ⟨none, fun H => by show pickA H (opd ρ c) _ _ = _; rw [hv]; rfl⟩
  | build z ps =>
    cases hv : evps ρ ps with
    | none => exact ⟨none, fun H => by show buildA H z (evps ρ ps) = _; rw [hv]; rfl⟩
    | some v => exact ⟨mapO aggOf (fillA z v), fun H => by show buildA H z (evps ρ ps) = _; rw [hv]; rfl⟩
  | nilCheck x =>
    cases hv : opd ρ x with
    | none => exact ⟨none, fun H => by show bind1 (opd ρ x) (nilCheckA H) = _; rw [hv]; rfl⟩
    | some v =>
      cases v with
      | pointer a => cases a with
        | none => exact ⟨none, fun H => by show bind1 (opd ρ x) (nilCheckA H) = _; rw [hv]; rfl⟩
        | some a => exact ⟨some (.pointer (some a)), fun H => by show bind1 (opd ρ x) (nilCheckA H) = _; rw [hv]; rfl⟩
      | _ => exact ⟨none, fun H => by show bind1 (opd ρ x) (nilCheckA H) = _; rw [hv]; rfl⟩
  | un op x => exact ⟨_, fun H => outF_eq H _⟩
  | makeFunc fn f c =>
    cases hv : evs ρ f with
    | none => exact ⟨none, fun H => by show makeFuncA H fn (evs ρ f) (evs ρ c) = _; rw [hv]; rfl⟩
    | some u =>
      cases hw : evs ρ c with
      | none => exact ⟨none, fun H => by show makeFuncA H fn (evs ρ f) (evs ρ c) = _; rw [hv, hw]; rfl⟩
      | some v =>
        cases hb : (allL isPlain u && allL isPlain v) with
        | true => exact ⟨some (.func fn u.toArray v.toArray), fun H => by
            show makeFuncA H fn (evs ρ f) (evs ρ c) = _; rw [hv, hw]
            show cnd (allL isPlain u && allL isPlain v) (some (AOut.val (.func fn u.toArray v.toArray), H)) none = _
            rw [hb]; rfl⟩
        | false => exact ⟨none, fun H => by
            show makeFuncA H fn (evs ρ f) (evs ρ c) = _; rw [hv, hw]
            show cnd (allL isPlain u && allL isPlain v) (some (AOut.val (.func fn u.toArray v.toArray), H)) none = _
            rw [hb]; rfl⟩
  | slice d s n x lo hi mx =>
    obtain ⟨y, hy⟩ := sliceO_eq d s n ⟨0, .nil⟩ (opd ρ x) (evo ρ lo) (evo ρ hi) (evo ρ mx)
    exact ⟨y, hy⟩
  | fieldAddr o x => exact ⟨_, fun _ => rfl⟩
  | field a o s x => exact ⟨_, fun _ => rfl⟩
  | indexAddr d s n x i => exact ⟨_, fun _ => rfl⟩
  | index d s n a x i => exact ⟨_, fun _ => rfl⟩
  | extract t i =>
    cases hv : opd ρ t with
    | none => exact ⟨none, fun H => by show bind1 (opd ρ t) (fun t => extractA H t i) = _; rw [hv]; rfl⟩
    | some v =>
      cases v with
      | tuple vs => exact ⟨nthL vs.toList i, fun H => by show bind1 (opd ρ t) (fun t => extractA H t i) = _; rw [hv]; rfl⟩
      | _ => exact ⟨none, fun H => by show bind1 (opd ρ t) (fun t => extractA H t i) = _; rw [hv]; rfl⟩
  | cap x => exact ⟨_, fun _ => rfl⟩
  | minmax mx l => exact ⟨_, fun _ => rfl⟩
  | _ => exact absurd hc (by simp [clsOf])
/-- what reads leaves all as it is -/
theorem cls1_eq {ρ : Tr Value} {op : AOp} (hc : clsOf op = 1) (H : AH) : ∃ y, opA ρ H op = outV H y := by
  cases op with
  | bin op ti te x y => exact ⟨_, outF_eq H _⟩
  | load ti a => exact ⟨_, rfl⟩
  | conv d ik x => exact ⟨_, outF_eq H _⟩
  | lookup tk z ok m k => exact ⟨_, rfl⟩
  | len d n x => exact ⟨_, rfl⟩
  | _ => exact absurd hc (by simp [clsOf])
theorem evalR_some {ρ : Tr Value} {op : AOp} {H : AH} {v : Value} (h : evalR ρ op H = some v) : ∃ H', opA ρ H op = some (.val v, H') := by
  unfold evalR at h
  cases hx : opA ρ H op with
  | none => rw [hx] at h; cases h
  | some p =>
    obtain ⟨q, H'⟩ := p
    rw [hx] at h
    cases q with
    | val u => injection h with h; subst h; exact ⟨H', rfl⟩
    | enter f as => cases h
theorem evalR_outV {ρ : Tr Value} {op : AOp} {H : AH} {y : Option Value} (h : opA ρ H op = outV H y) : evalR ρ op H = y := by
  unfold evalR
  rw [h]
  cases y <;> rfl
theorem outV_of {H : AH} {v : Value} : outV H (some v) = some (.val v, H) := rfl
end Go.Rem
/-! Regions whose order is open: the run in the order of the text as a chain of steps. -/
namespace Go.Rem

theorem bitN_eq (m i : Nat) : bitN m i = m.testBit i := by
  unfold bitN
  rw [Bool.eq_iff_iff]
  simp only [Nat.beq_eq]
  have h1 : Nat.land (Nat.shiftRight m i) 1 = (m >>> i) % 2 := Nat.and_one_is_mod _
  rw [h1, Nat.testBit_eq_decide_div_mod_eq, Nat.shiftRight_eq_div_pow]
  simp
theorem bitN_or (a b i : Nat) : bitN (Nat.lor a b) i = (bitN a i || bitN b i) := by
  rw [bitN_eq, bitN_eq, bitN_eq]; exact Nat.testBit_or a b i
theorem bitN_and (a b i : Nat) : bitN (Nat.land a b) i = (bitN a i && bitN b i) := by
  rw [bitN_eq, bitN_eq, bitN_eq]; exact Nat.testBit_and a b i
theorem bitN_one (n i : Nat) : bitN (Nat.shiftLeft 1 n) i = decide (n = i) := by
  rw [bitN_eq]
  have : Nat.shiftLeft 1 n = 2 ^ n := by show 1 <<< n = _; rw [Nat.shiftLeft_eq, Nat.one_mul]
  rw [this, Nat.testBit_two_pow]
theorem bitN_zero (i : Nat) : bitN 0 i = false := by rw [bitN_eq]; simp
theorem land_eq {a b : Nat} (h : ∀ i, bitN a i = true → bitN b i = true) : Nat.land a b = a := by
  refine Nat.eq_of_testBit_eq fun i => ?_
  have := Nat.testBit_and a b i
  show (a &&& b).testBit i = _
  rw [this, ← bitN_eq, ← bitN_eq]
  cases ha : bitN a i with
  | false => rfl
  | true => rw [h i ha]; rfl
theorem land_sub {a b : Nat} (h : Nat.beq (Nat.land a b) a = true) (i : Nat) (ha : bitN a i = true) : bitN b i = true := by
  have h1 : Nat.land a b = a := by simpa using h
  have h2 := bitN_and a b i
  rw [h1, ha] at h2
  cases hb : bitN b i with
  | true => rfl
  | false => rw [hb] at h2; simp at h2
theorem bitN_lt {m n : Nat} (h : Nat.beq (Nat.shiftRight m n) 0 = true) {i : Nat} (hi : bitN m i = true) : i < n := by
  rcases Nat.lt_or_ge i n with hl | hl
  · exact hl
  · exfalso
    have h1 : m >>> n = 0 := by simpa using h
    rw [Nat.shiftRight_eq_div_pow] at h1
    have h2 : m < 2 ^ n := by
      rcases Nat.div_eq_zero_iff.1 h1 with h | h
      · have := Nat.two_pow_pos n; omega
      · exact h
    have h3 : m < 2 ^ i := Nat.lt_of_lt_of_le h2 (Nat.pow_le_pow_right (by decide) hl)
    rw [bitN_eq, Nat.testBit_lt_two_pow h3] at hi
    cases hi

/-! ### sameness -/
theorem sameS_eq {a b : Value} (h : sameS a b = true) : a = b := by
  unfold sameS at h
  split at h
  · split at h
    · rw [beq_iff_eq] at h; rw [h]
    · cases h
  · split at h
    · next j x _ k y =>
      rw [cnd_eq] at h
      split at h
      · next hk => rw [eqF_eq, beq_iff_eq] at h; rw [h, ikN_inj hk]
      · cases h
    · cases h
  · split at h
    · next x _ y =>
      have : strL x = strL y := by simpa using h
      have : x = y := by
        apply ByteArray.ext; apply Array.ext'; exact this
      rw [this]
    · cases h
  · split at h
    · rfl
    · cases h
  · split at h
    · rw [cnd_eq] at h
      split at h
      · next h1 => simp at h h1; rw [h, h1]
      · cases h
    · cases h
  · split at h
    · rw [cnd_eq] at h
      split at h
      · next h1 => simp at h h1; rw [h, h1]
      · cases h
    · cases h
  · split at h
    · simp only [cnd_eq] at h
      split at h
      · next h1 =>
        split at h
        · next h2 =>
          split at h
          · next h3 => simp at h h1 h2 h3; rw [h, h1, h2, h3]
          · cases h
        · cases h
      · cases h
    · cases h
  · split at h
    · rfl
    · cases h
  · split at h
    · simp at h; rw [h]
    · cases h
  · split at h
    · rfl
    · cases h
  · split at h
    · rfl
    · cases h
  · cases h
theorem sameL_eq {f : Value → Value → Bool} (hf : ∀ a b, f a b = true → a = b) : ∀ (x y : List Value), sameL f x y = true → x = y := by
  intro x
  induction x with
  | nil => intro y h; cases y with
    | nil => rfl
    | cons b y => cases h
  | cons a x ih => intro y h; cases y with
    | nil => cases h
    | cons b y =>
      change cnd (f a b) (sameL f x y) false = true at h
      rw [cnd_eq] at h
      split at h
      · next h1 => rw [hf a b h1, ih y h]
      · cases h
theorem sameA_eq {a b : Value} (h : sameA a b = true) : a = b := by
  unfold sameA at h
  split at h
  · split at h
    · have := sameL_eq (fun _ _ => sameS_eq) _ _ h
      rw [Array.ext' this]
    · cases h
  · exact sameS_eq h
theorem sameV_eq {a b : Value} (h : sameV a b = true) : a = b := by
  unfold sameV at h
  split at h
  · split at h
    · have := sameL_eq (fun _ _ => sameA_eq) _ _ h
      rw [Array.ext' this]
    · cases h
  · exact sameA_eq h
theorem sameO_eq {x : Option Value} {v : Value} (h : sameO x v = true) : x = some v := by
  cases x with
  | none => cases h
  | some u => rw [sameV_eq (show sameV u v = true from h)]

theorem stagesOk_mem {ρ : Tr Value} {op : AOp} {bef W : Nat} {pend : DPend} {v : Value} {l : List DStage} (h : stagesOk ρ op bef W pend v l = true) {H : AH} {A W' : Nat} (hm : DStage.mk H A W' ∈ l)
    (hw : ∀ i, bitN bef i = true → bitN W i = true → bitN W' i = true) : evalR ρ op (addB bef A pend H) = some v := by
  induction l with
  | nil => cases hm
  | cons s l ih =>
    obtain ⟨H1, A1, W1⟩ := s
    change cnd (cnd (Nat.beq (Nat.land (Nat.land bef W) W1) (Nat.land bef W)) (sameO (evalR ρ op (addB bef A1 pend H1)) v) true) (stagesOk ρ op bef W pend v l) false = true at h
    rw [cnd_eq] at h
    split at h
    · next h1 =>
      cases hm with
      | head =>
        have : Nat.land (Nat.land bef W) W' = Nat.land bef W := land_eq fun i hi => by
          rw [bitN_and, Bool.and_eq_true] at hi
          exact hw i hi.1 hi.2
        rw [this, cnd_eq] at h1
        simp at h1
        exact sameO_eq h1
      | tail _ hm => exact ih h hm
    · cases h
theorem logOk_mem {bef : Nat} {pend : DPend} {A : Nat} {H : AH} {l : List DLog} (h : logOk bef pend A H l = true) {i befr : Nat} {ρ : Tr Value} {op : AOp} {v : Value} (hm : DLog.mk i befr ρ op v ∈ l)
    (hb : bitN bef i = false) : evalR ρ op (addB befr A pend H) = some v := by
  induction l with
  | nil => cases hm
  | cons s l ih =>
    obtain ⟨i1, b1, ρ1, op1, v1⟩ := s
    change cnd (cnd (bitN bef i1) true (sameO (evalR ρ1 op1 (addB b1 A pend H)) v1)) (logOk bef pend A H l) false = true at h
    rw [cnd_eq] at h
    split at h
    · next h1 =>
      cases hm with
      | head => rw [hb] at h1; exact sameO_eq h1
      | tail _ hm => exact ih h hm
    · cases h

/-! ### pending blocks -/
noncomputable def addQ (f : Nat → Bool) (pend : DPend) (H : AH) : AH := List.rec H (fun p _ ih => cnd (f p.1) (ih.put p.2.1 p.2.2) ih) pend
theorem addB_eq (bef A : Nat) (pend : DPend) (H : AH) : addB bef A pend H = addQ (fun i => bitN bef i && !bitN A i) pend H := by
  induction pend with
  | nil => rfl
  | cons p pend ih =>
    show cnd (cnd (bitN bef p.1) (cnd (bitN A p.1) false true) false) ((addB bef A pend H).put p.2.1 p.2.2) (addB bef A pend H) = cnd (bitN bef p.1 && !bitN A p.1) ((addQ (fun i => bitN bef i && !bitN A i) pend H).put p.2.1 p.2.2) (addQ (fun i => bitN bef i && !bitN A i) pend H)
    rw [ih]
    cases bitN bef p.1 <;> cases bitN A p.1 <;> rfl
theorem addR_eq (A : Nat) (pend : DPend) (H : AH) : addR A pend H = addQ (fun i => !bitN A i) pend H := by
  induction pend with
  | nil => rfl
  | cons p pend ih =>
    show cnd (bitN A p.1) (addR A pend H) ((addR A pend H).put p.2.1 p.2.2) = cnd (!bitN A p.1) ((addQ (fun i => !bitN A i) pend H).put p.2.1 p.2.2) (addQ (fun i => !bitN A i) pend H)
    rw [ih]
    cases bitN A p.1 <;> rfl
theorem addQ_next (f : Nat → Bool) (pend : DPend) (H : AH) : (addQ f pend H).next = H.next := by
  induction pend with
  | nil => rfl
  | cons p pend ih =>
    show (cnd (f p.1) ((addQ f pend H).put p.2.1 p.2.2) (addQ f pend H)).next = _
    cases f p.1
    · exact ih
    · exact ih
theorem addQ_in {f : Nat → Bool} {pend : DPend} {H : AH} {base : Nat} {b : Nat → ABlk} (hp : ∀ e ∈ pend, e.2.1 = base + e.1 ∧ e.2.2 = b e.1) {i : Nat} (hi : ∃ e ∈ pend, e.1 = i) (hf : f i = true) :
    (addQ f pend H).get (base + i) = some (b i) := by
  induction pend with
  | nil => obtain ⟨e, h, _⟩ := hi; cases h
  | cons p pend ih =>
    have hp1 := hp p (by simp)
    show (cnd (f p.1) ((addQ f pend H).put p.2.1 p.2.2) (addQ f pend H)).get (base + i) = _
    by_cases hpi : p.1 = i
    · rw [hpi, hf, cnd_true, AH.get_put, hp1.1, hp1.2, hpi]; simp
    · have h2 := ih (fun e he => hp e (by simp [he])) (by
        obtain ⟨e, he, hei⟩ := hi
        cases he with
        | head => exact absurd hei hpi
        | tail _ he => exact ⟨e, he, hei⟩)
      cases f p.1 with
      | false => exact h2
      | true =>
        rw [cnd_true, AH.get_put, hp1.1, if_neg (by omega)]; exact h2
theorem addQ_out {f : Nat → Bool} {pend : DPend} {H : AH} {base : Nat} {b : Nat → ABlk} (hp : ∀ e ∈ pend, e.2.1 = base + e.1 ∧ e.2.2 = b e.1) {c : Nat} (hc : ∀ e ∈ pend, f e.1 = true → base + e.1 ≠ c) :
    (addQ f pend H).get c = H.get c := by
  induction pend with
  | nil => rfl
  | cons p pend ih =>
    have hp1 := hp p (by simp)
    have h2 := ih (fun e he => hp e (by simp [he])) (fun e he => hc e (by simp [he]))
    show (cnd (f p.1) ((addQ f pend H).put p.2.1 p.2.2) (addQ f pend H)).get c = _
    cases hf : f p.1 with
    | false => exact h2
    | true => rw [cnd_true, AH.get_put, hp1.1, if_neg (fun e => hc p (by simp) hf e.symm)]; exact h2

/-! ### steps -/
structure DS where
  i : Nat
  ρ : Tr Value
  H : AH
  A : Nat
  W : Nat
  pend : DPend
  hist : List DStage
  log : List DLog

def GoD (o : AOper) (ρ : Tr Value) : Prop := o.guard = none ∨ ∃ g, o.guard = some g ∧ wanted ρ g = some true
def SkipD (o : AOper) (ρ : Tr Value) : Prop := ∃ g, o.guard = some g ∧ wanted ρ g = some false

inductive DStep (call : CallT) (base : Nat) (o : AOper) (s : DS) : DS → Bool → Value → ABlk → Prop
  | skip {k} (h : SkipD o s.ρ) : DStep call base o s { s with i := s.i + 1, ρ := putT s.ρ o.dst undef } true undef k
  | plain {k v} (h : GoD o s.ρ) (hc : o.cls = 0) (hv : evalR s.ρ o.op s.H = some v) : DStep call base o s { s with i := s.i + 1, ρ := putT s.ρ o.dst v } false v k
  | read {k v} (h : GoD o s.ρ) (hc : o.cls = 1) (hv : evalR s.ρ o.op (addB o.bef s.A s.pend s.H) = some v) (hs : stagesOk s.ρ o.op o.bef s.W s.pend v s.hist = true) :
      DStep call base o s { s with i := s.i + 1, ρ := putT s.ρ o.dst v, log := .mk s.i o.bef s.ρ o.op v :: s.log } false v k
  | new {k v H'} (h : GoD o s.ρ) (hc : o.cls = 2) (hv : opA s.ρ ⟨base + s.i, .nil⟩ o.op = some (.val v, H')) (hk : H'.get (base + s.i) = some k) :
      DStep call base o s { s with i := s.i + 1, ρ := putT s.ρ o.dst v, pend := (s.i, base + s.i, k) :: s.pend } false v k
  | write {k v H'} (h : GoD o s.ρ) (hc : 3 ≤ o.cls) (hv : stepC call (opA s.ρ (addB o.bef s.A s.pend s.H) o.op) = some (v, H')) (hl : logOk o.bef s.pend o.bef H' s.log = true) :
      DStep call base o s { i := s.i + 1, ρ := putT s.ρ o.dst v, H := H', A := o.bef, W := Nat.lor s.W (Nat.shiftLeft 1 s.i), pend := s.pend, hist := .mk s.H s.A s.W :: s.hist, log := s.log } false v k

theorem clsD_some {call : CallT} {base : Nat} {o : AOper} {k : RunD} {s : DS} {r : Tr Value × AH} (hg : GoD o s.ρ) (h : clsD call base s.i o k s.ρ s.H s.A s.W s.pend s.hist s.log = some r) :
    ∃ s' sk v b, DStep call base o s s' sk v b ∧ k s'.i s'.ρ s'.H s'.A s'.W s'.pend s'.hist s'.log = some r := by
  have hcs : o.cls = 0 ∨ o.cls = 1 ∨ o.cls = 2 ∨ ∃ n, o.cls = n + 3 := by
    rcases Nat.lt_or_ge o.cls 3 with h | h
    · omega
    · exact .inr (.inr (.inr ⟨o.cls - 3, by omega⟩))
  rcases hcs with hc | hc | hc | ⟨n, hn⟩
  · rw [show clsD call base s.i o k = plainD s.i o k by unfold clsD; rw [hc]; rfl] at h
    change Option.rec none (fun v => (putT s.ρ o.dst v).seq fun ρ => k (Nat.succ s.i) ρ s.H s.A s.W s.pend s.hist s.log) (evalR s.ρ o.op s.H) = some r at h
    cases hv : evalR s.ρ o.op s.H with
    | none => rw [hv] at h; cases h
    | some v =>
      rw [hv] at h
      have h2 : ((putT s.ρ o.dst v).seq fun ρ => k (Nat.succ s.i) ρ s.H s.A s.W s.pend s.hist s.log) = some r := h
      rw [Tr.seq_eq] at h2
      exact ⟨_, _, _, .dead, .plain hg hc hv, h2⟩
  · rw [show clsD call base s.i o k = readD s.i o k by unfold clsD; rw [hc]; rfl] at h
    change Option.rec none (fun v => cnd (stagesOk s.ρ o.op o.bef s.W s.pend v s.hist) ((putT s.ρ o.dst v).seq fun ρ' => k (Nat.succ s.i) ρ' s.H s.A s.W s.pend s.hist (.mk s.i o.bef s.ρ o.op v :: s.log)) none) (evalR s.ρ o.op (addB o.bef s.A s.pend s.H)) = some r at h
    cases hv : evalR s.ρ o.op (addB o.bef s.A s.pend s.H) with
    | none => rw [hv] at h; cases h
    | some v =>
      rw [hv] at h
      obtain ⟨hs, h2⟩ := cnd_some (show cnd (stagesOk s.ρ o.op o.bef s.W s.pend v s.hist) ((putT s.ρ o.dst v).seq fun ρ' => k (Nat.succ s.i) ρ' s.H s.A s.W s.pend s.hist (.mk s.i o.bef s.ρ o.op v :: s.log)) none = some r from h)
      rw [Tr.seq_eq] at h2
      exact ⟨_, _, _, .dead, .read hg hc hv hs, h2⟩
  · rw [show clsD call base s.i o k = newD base s.i o k by unfold clsD; rw [hc]; rfl] at h
    change Option.rec none (fun p => @AOut.rec (fun _ => Option (Tr Value × AH))
      (fun v => Option.rec none (fun blk => (putT s.ρ o.dst v).seq fun ρ => k (Nat.succ s.i) ρ s.H s.A s.W ((s.i, Nat.add base s.i, blk) :: s.pend) s.hist s.log) (p.2.get (Nat.add base s.i)))
      (fun _ _ => none) p.1) (opA s.ρ ⟨Nat.add base s.i, .nil⟩ o.op) = some r at h
    cases hv : opA s.ρ ⟨Nat.add base s.i, .nil⟩ o.op with
    | none => rw [hv] at h; cases h
    | some p =>
      obtain ⟨q, H'⟩ := p
      rw [hv] at h
      cases q with
      | enter f as => cases h
      | val v =>
        change Option.rec none (fun blk => (putT s.ρ o.dst v).seq fun ρ => k (Nat.succ s.i) ρ s.H s.A s.W ((s.i, Nat.add base s.i, blk) :: s.pend) s.hist s.log) (H'.get (Nat.add base s.i)) = some r at h
        cases hk : H'.get (Nat.add base s.i) with
        | none => rw [hk] at h; cases h
        | some blk =>
          rw [hk] at h
          have h2 : ((putT s.ρ o.dst v).seq fun ρ => k (Nat.succ s.i) ρ s.H s.A s.W ((s.i, Nat.add base s.i, blk) :: s.pend) s.hist s.log) = some r := h
          rw [Tr.seq_eq] at h2
          exact ⟨_, _, _, _, .new hg hc hv hk, h2⟩
  · have hc : 3 ≤ o.cls := by omega
    rw [show clsD call base s.i o k = writeD call s.i o k by unfold clsD; rw [hn]; rfl] at h
    change Option.rec none (fun p => p.2.seq fun H' => cnd (logOk o.bef s.pend o.bef H' s.log)
      ((putT s.ρ o.dst p.1).seq fun ρ' => k (Nat.succ s.i) ρ' H' o.bef (Nat.lor s.W (Nat.shiftLeft 1 s.i)) s.pend (.mk s.H s.A s.W :: s.hist) s.log) none)
      ((addB o.bef s.A s.pend s.H).seq fun H => stepC call (opA s.ρ H o.op)) = some r at h
    rw [AH.seq_eq] at h
    cases hv : stepC call (opA s.ρ (addB o.bef s.A s.pend s.H) o.op) with
    | none => rw [hv] at h; cases h
    | some p =>
      obtain ⟨v, H'⟩ := p
      rw [hv] at h
      have h3 : (H'.seq fun H' => cnd (logOk o.bef s.pend o.bef H' s.log)
        ((putT s.ρ o.dst v).seq fun ρ' => k (Nat.succ s.i) ρ' H' o.bef (Nat.lor s.W (Nat.shiftLeft 1 s.i)) s.pend (.mk s.H s.A s.W :: s.hist) s.log) none) = some r := h
      rw [AH.seq_eq] at h3
      obtain ⟨hl, h4⟩ := cnd_some h3
      rw [Tr.seq_eq] at h4
      exact ⟨_, _, _, .dead, .write hg hc hv hl, h4⟩

theorem stepD_some {call : CallT} {base : Nat} {o : AOper} {k : RunD} {s : DS} {r : Tr Value × AH} (h : stepD call base o k s.i s.ρ s.H s.A s.W s.pend s.hist s.log = some r) :
    ∃ s' sk v b, DStep call base o s s' sk v b ∧ k s'.i s'.ρ s'.H s'.A s'.W s'.pend s'.hist s'.log = some r := by
  unfold stepD at h
  cases hg : o.guard with
  | none => rw [hg] at h; exact clsD_some (.inl hg) h
  | some g =>
    rw [hg] at h
    change Option.rec none (fun w => cnd w (clsD call base s.i o k s.ρ s.H s.A s.W s.pend s.hist s.log) (skipD s.i o k s.ρ s.H s.A s.W s.pend s.hist s.log)) (wanted s.ρ g) = some r at h
    cases hw : wanted s.ρ g with
    | none => rw [hw] at h; cases h
    | some w =>
      rw [hw] at h
      cases w with
      | true => exact clsD_some (.inr ⟨g, hg, hw⟩) h
      | false =>
        have h2 : ((putT s.ρ o.dst undef).seq fun ρ => k (Nat.succ s.i) ρ s.H s.A s.W s.pend s.hist s.log) = some r := h
        rw [Tr.seq_eq] at h2
        exact ⟨_, _, _, .dead, .skip ⟨g, hg, hw⟩, h2⟩

theorem runD_chain {call : CallT} {base : Nat} : ∀ (l : List AOper) (s : DS) {r : Tr Value × AH}, runD call base l s.i s.ρ s.H s.A s.W s.pend s.hist s.log = some r →
    ∃ (S : Nat → DS) (sk : Nat → Bool) (v : Nat → Value) (b : Nat → ABlk), S 0 = s ∧ (∀ k o, l[k]? = some o → DStep call base o (S k) (S (k + 1)) (sk k) (v k) (b k)) ∧
      endD (S l.length).ρ (S l.length).H (S l.length).A (S l.length).pend = some r := by
  intro l
  induction l with
  | nil => intro s r h; exact ⟨fun _ => s, fun _ => false, fun _ => undef, fun _ => .dead, rfl, fun k o e => by simp at e, h⟩
  | cons o l ih =>
    intro s r h
    obtain ⟨s', sk, v, b, h1, h2⟩ := stepD_some (show stepD call base o (runD call base l) s.i s.ρ s.H s.A s.W s.pend s.hist s.log = some r from h)
    obtain ⟨S, sks, vs, bs, g1, g2, g3⟩ := ih s' h2
    refine ⟨fun n => match n with | 0 => s | m + 1 => S m, fun n => match n with | 0 => sk | m + 1 => sks m, fun n => match n with | 0 => v | m + 1 => vs m, fun n => match n with | 0 => b | m + 1 => bs m, rfl, ?_, g3⟩
    intro k o' e
    cases k with
    | zero =>
      simp at e; subst e
      show DStep call base o s (S 0) sk v b
      rw [g1]; exact h1
    | succ k => exact g2 k o' (by simpa using e)
end Go.Rem
/-! Regions whose order is open: what is known of the run in the order of the text. -/
namespace Go.Rem

section
variable {call : CallT} {base : Nat} {o : AOper} {s s' : DS} {sk : Bool} {v : Value} {b : ABlk}
theorem DStep.fi (h : DStep call base o s s' sk v b) : s'.i = s.i + 1 ∧ s'.ρ = putT s.ρ o.dst v := by cases h <;> exact ⟨rfl, rfl⟩
theorem DStep.keep (h : DStep call base o s s' sk v b) (hn : ¬ (3 ≤ o.cls ∧ sk = false)) : s'.H = s.H ∧ s'.A = s.A ∧ s'.W = s.W ∧ s'.hist = s.hist := by
  cases h with
  | write _ hc _ _ => exact absurd ⟨hc, rfl⟩ hn
  | _ => exact ⟨rfl, rfl, rfl, rfl⟩
theorem DStep.wr (h : DStep call base o s s' sk v b) (hc : 3 ≤ o.cls) (hs : sk = false) : GoD o s.ρ ∧ stepC call (opA s.ρ (addB o.bef s.A s.pend s.H) o.op) = some (v, s'.H) ∧
    logOk o.bef s.pend o.bef s'.H s.log = true ∧ s'.A = o.bef ∧ s'.W = Nat.lor s.W (Nat.shiftLeft 1 s.i) ∧ s'.hist = .mk s.H s.A s.W :: s.hist := by
  cases h with
  | skip _ => cases hs
  | plain _ h0 _ => omega
  | read _ h0 _ _ => omega
  | new _ h0 _ _ => omega
  | write h0 h1 h2 h3 => exact ⟨h0, h2, h3, rfl, rfl, rfl⟩
theorem DStep.lg (h : DStep call base o s s' sk v b) : (o.cls = 1 → sk = false → s'.log = .mk s.i o.bef s.ρ o.op v :: s.log) ∧ ∀ x ∈ s.log, x ∈ s'.log := by
  cases h with
  | skip _ => exact ⟨fun _ e => (by cases e), fun _ h => h⟩
  | plain _ h0 _ => exact ⟨fun e => by omega, fun _ h => h⟩
  | read _ h0 _ _ => exact ⟨fun _ _ => rfl, fun x h => List.mem_cons_of_mem _ h⟩
  | new _ h0 _ _ => exact ⟨fun e => by omega, fun _ h => h⟩
  | write _ h0 _ _ => exact ⟨fun e => by omega, fun _ h => h⟩
theorem DStep.pd (h : DStep call base o s s' sk v b) : (o.cls = 2 → sk = false → s'.pend = (s.i, base + s.i, b) :: s.pend) ∧ (¬ (o.cls = 2 ∧ sk = false) → s'.pend = s.pend) := by
  cases h with
  | skip _ => exact ⟨fun _ e => (by cases e), fun _ => rfl⟩
  | plain _ h0 _ => exact ⟨fun e => by omega, fun _ => rfl⟩
  | read _ h0 _ _ => exact ⟨fun e => by omega, fun _ => rfl⟩
  | new _ h0 _ _ => exact ⟨fun _ _ => rfl, fun h => absurd ⟨h0, rfl⟩ h⟩
  | write _ h0 _ _ => exact ⟨fun e => by omega, fun _ => rfl⟩
theorem DStep.rd (h : DStep call base o s s' sk v b) (hc : o.cls = 1) (hs : sk = false) : GoD o s.ρ ∧ evalR s.ρ o.op (addB o.bef s.A s.pend s.H) = some v ∧ stagesOk s.ρ o.op o.bef s.W s.pend v s.hist = true := by
  cases h with
  | skip _ => cases hs
  | plain _ h0 _ => omega
  | read h0 _ h1 h2 => exact ⟨h0, h1, h2⟩
  | new _ h0 _ _ => omega
  | write _ h0 _ _ => omega
theorem DStep.nw (h : DStep call base o s s' sk v b) (hc : o.cls = 2) (hs : sk = false) : GoD o s.ρ ∧ ∃ H', opA s.ρ ⟨base + s.i, .nil⟩ o.op = some (.val v, H') ∧ H'.get (base + s.i) = some b := by
  cases h with
  | skip _ => cases hs
  | plain _ h0 _ => omega
  | read _ h0 _ _ => omega
  | new h0 _ h1 h2 => exact ⟨h0, _, h1, h2⟩
  | write _ h0 _ _ => omega
theorem DStep.pl (h : DStep call base o s s' sk v b) (hc : o.cls = 0) (hs : sk = false) : GoD o s.ρ ∧ evalR s.ρ o.op s.H = some v := by
  cases h with
  | skip _ => cases hs
  | plain h0 _ h1 => exact ⟨h0, h1⟩
  | read _ h0 _ _ => omega
  | new _ h0 _ _ => omega
  | write _ h0 _ _ => omega
theorem DStep.sp (h : DStep call base o s s' sk v b) (hs : sk = true) : SkipD o s.ρ ∧ v = undef := by
  cases h with
  | skip h0 => exact ⟨h0, rfl⟩
  | _ => cases hs
end

/-! ### what must come ahead -/
theorem maskOf_cons (n : Nat) (ms : List Nat) (e : Edge) (es : List Edge) : maskOf n ms (e :: es) =
    cnd (bindsG e.ground) (Nat.lor (maskOf n ms es) (Nat.lor (Nat.shiftLeft 1 e.on) (Option.rec 0 (fun m => m) (nthL ms (Nat.sub (Nat.sub n 1) e.on))))) (maskOf n ms es) := rfl
theorem maskOf_one (n : Nat) (ms : List Nat) : ∀ (es : List Edge) (e : Edge), e ∈ es → bindsG e.ground = true → bitN (maskOf n ms es) e.on = true := by
  intro es
  induction es with
  | nil => intro e h; cases h
  | cons x es ih =>
    intro e h hb
    rw [maskOf_cons]
    cases h with
    | head => rw [hb, cnd_true, bitN_or, bitN_or, bitN_one]; simp
    | tail _ h =>
      have := ih e h hb
      cases bindsG x.ground with
      | false => exact this
      | true => rw [cnd_true, bitN_or, this]; rfl
theorem maskOf_two (n : Nat) (ms : List Nat) : ∀ (es : List Edge) (e : Edge) (mm j : Nat), e ∈ es → bindsG e.ground = true → nthL ms (Nat.sub (Nat.sub n 1) e.on) = some mm → bitN mm j = true → bitN (maskOf n ms es) j = true := by
  intro es
  induction es with
  | nil => intro e _ _ h; cases h
  | cons x es ih =>
    intro e mm j h hb hm hj
    rw [maskOf_cons]
    cases h with
    | head => rw [hb, cnd_true, bitN_or, bitN_or, hm]; simp [hj]
    | tail _ h =>
      have := ih e mm j h hb hm hj
      cases bindsG x.ground with
      | false => exact this
      | true => rw [cnd_true, bitN_or, this]; rfl
theorem maskOf_three (n : Nat) (ms : List Nat) : ∀ (es : List Edge) (j : Nat), bitN (maskOf n ms es) j = true → ∃ e ∈ es, bindsG e.ground = true ∧ (j = e.on ∨ ∃ mm, nthL ms (Nat.sub (Nat.sub n 1) e.on) = some mm ∧ bitN mm j = true) := by
  intro es
  induction es with
  | nil => intro j h; change bitN 0 j = true at h; rw [bitN_zero] at h; cases h
  | cons x es ih =>
    intro j h
    rw [maskOf_cons] at h
    cases hx : bindsG x.ground with
    | false =>
      rw [hx] at h
      obtain ⟨e, h1, h2⟩ := ih j h
      exact ⟨e, by simp [h1], h2⟩
    | true =>
      rw [hx, cnd_true, bitN_or, bitN_or, Bool.or_eq_true, Bool.or_eq_true] at h
      rcases h with h | h | h
      · obtain ⟨e, h1, h2⟩ := ih j h
        exact ⟨e, by simp [h1], h2⟩
      · rw [bitN_one] at h
        exact ⟨x, by simp, hx, .inl (by simpa using Eq.symm (by simpa using h))⟩
      · cases hm : nthL ms (Nat.sub (Nat.sub n 1) x.on) with
        | none => rw [hm] at h; change bitN 0 j = true at h; rw [bitN_zero] at h; cases h
        | some mm => rw [hm] at h; exact ⟨x, by simp, hx, .inr ⟨mm, hm, h⟩⟩
theorem pOpers_get {lay : Lay} {nt : Nat} {ops : List Oper} : ∀ (l : List Oper) (n : Nat) (ms : List Nat), ∃ m : Nat → Nat, ∀ k o, l[k]? = some o →
    (pOpers lay nt ops l n ms)[k]? = some (pOper lay nt ops (n + k) o (m k)) ∧ m k = maskOf (n + k) ((List.range k).reverse.map m ++ ms) o.after.toList := by
  intro l
  induction l with
  | nil => intro n ms; exact ⟨fun _ => 0, fun k o e => by simp at e⟩
  | cons o l ih =>
    intro n ms
    obtain ⟨m', h⟩ := ih (n + 1) (maskOf n ms o.after.toList :: ms)
    refine ⟨fun k => match k with | 0 => maskOf n ms o.after.toList | j + 1 => m' j, ?_⟩
    intro k o' e
    cases k with
    | zero =>
      simp at e; subst e
      exact ⟨rfl, by simp⟩
    | succ k =>
      obtain ⟨h1, h2⟩ := h k o' (by simpa using e)
      refine ⟨?_, ?_⟩
      · show (pOpers lay nt ops l (n + 1) (maskOf n ms o.after.toList :: ms))[k]? = _
        rw [h1, Nat.add_right_comm]; rfl
      · show m' k = _
        rw [h2, Nat.add_right_comm, List.range_succ_eq_map, List.reverse_cons, List.map_append]
        simp only [List.map_reverse, List.map_map, List.map_cons, List.map_nil, List.append_assoc, List.singleton_append, Nat.add_assoc]
        rfl
theorem pOpers_len {lay : Lay} {nt : Nat} {ops : List Oper} : ∀ (l : List Oper) (n : Nat) (ms : List Nat), (pOpers lay nt ops l n ms).length = l.length := by
  intro l
  induction l with
  | nil => intro n ms; rfl
  | cons o l ih => intro n ms; exact congrArg (· + 1) (ih _ _)

/-! ### what a region keeps to -/
theorem ownF_spec : ∀ (l : List AOper) (i : Nat) (own own' : Tr Nat), ownF l i own = some own' → (∀ p j, own.at p = some j → own'.at p = some j) ∧
    (∀ k o p, l[k]? = some o → o.dst = some p → own'.at p = some (i + k)) ∧ (∀ p j, own'.at p = some j → own.at p = some j ∨ ∃ k o, l[k]? = some o ∧ j = i + k ∧ o.dst = some p) := by
  intro l
  induction l with
  | nil =>
    intro i own own' h
    injection h with h; subst h
    exact ⟨fun _ _ h => h, fun k o p e => by simp at e, fun p j h => .inl h⟩
  | cons o l ih =>
    intro i own own' h
    change @Option.rec _ (fun _ => Option (Tr Nat)) (ownF l (i + 1) own) (fun p => Option.rec ((own.put p i).seq fun own => ownF l (i + 1) own) (fun _ => none) (own.at p)) o.dst = some own' at h
    cases hd : o.dst with
    | none =>
      rw [hd] at h
      obtain ⟨g1, g2, g3⟩ := ih (i + 1) own own' h
      refine ⟨g1, ?_, ?_⟩
      · intro k o' p e hp
        cases k with
        | zero => simp at e; subst e; rw [hd] at hp; cases hp
        | succ k => rw [g2 k o' p (by simpa using e) hp]; congr 1; omega
      · intro p j e
        rcases g3 p j e with e | ⟨k, o', e1, e2, e3⟩
        · exact .inl e
        · exact .inr ⟨k + 1, o', by simpa using e1, by omega, e3⟩
    | some q =>
      rw [hd] at h
      change Option.rec ((own.put q i).seq fun own => ownF l (i + 1) own) (fun _ => none) (own.at q) = some own' at h
      cases hq : own.at q with
      | some _ => rw [hq] at h; cases h
      | none =>
        rw [hq] at h
        have h2 : ((own.put q i).seq fun own => ownF l (i + 1) own) = some own' := h
        rw [Tr.seq_eq] at h2
        obtain ⟨g1, g2, g3⟩ := ih (i + 1) (own.put q i) own' h2
        refine ⟨?_, ?_, ?_⟩
        · intro p j e
          refine g1 p j ?_
          rw [Tr.at_put_ne _ _ _ _ (fun e' => by rw [e', hq] at e; cases e)]; exact e
        · intro k o' p e hp
          cases k with
          | zero =>
            simp at e; subst e
            rw [hd] at hp; injection hp with hp; subst hp
            exact g1 q i (Tr.at_put_same _ _ _)
          | succ k => rw [g2 k o' p (by simpa using e) hp]; congr 1; omega
        · intro p j e
          rcases g3 p j e with e | ⟨k, o', e1, e2, e3⟩
          · by_cases hpq : p = q
            · subst hpq
              rw [Tr.at_put_same] at e; injection e with e; subst e
              exact .inr ⟨0, o, by simp, by simp, hd⟩
            · rw [Tr.at_put_ne _ _ _ _ hpq] at e; exact .inl e
          · exact .inr ⟨k + 1, o', by simpa using e1, by omega, e3⟩
theorem rowOk_spec : ∀ (l : List AOper) (i W : Nat), rowOk l i W = true → ∀ k o, l[k]? = some o → 3 ≤ o.cls → ∀ j, (bitN W j = true ∨ ∃ k' o', k' < k ∧ l[k']? = some o' ∧ 3 ≤ o'.cls ∧ j = i + k') → bitN o.bef j = true := by
  intro l
  induction l with
  | nil => intro i W _ k o e; simp at e
  | cons x l ih =>
    intro i W h k o e hc j hj
    change cnd (Nat.ble x.cls 2) (rowOk l (i + 1) W) (cnd (Nat.beq (Nat.land W x.bef) W) (rowOk l (i + 1) (Nat.lor W (Nat.shiftLeft 1 i))) false) = true at h
    rw [cnd_eq] at h
    split at h
    · next hx =>
      have hx : x.cls ≤ 2 := by simpa using hx
      cases k with
      | zero => simp at e; subst e; omega
      | succ k =>
        refine ih (i + 1) W h k o (by simpa using e) hc j ?_
        rcases hj with hj | ⟨k', o', h1, h2, h3, h4⟩
        · exact .inl hj
        · cases k' with
          | zero => simp at h2; subst h2; omega
          | succ k' => exact .inr ⟨k', o', by omega, by simpa using h2, h3, by omega⟩
    · rw [cnd_eq] at h
      split at h
      · next hw =>
        cases k with
        | zero =>
          simp at e; subst e
          rcases hj with hj | ⟨k', o', h1, _⟩
          · exact land_sub hw j hj
          · omega
        | succ k =>
          refine ih (i + 1) _ h k o (by simpa using e) hc j ?_
          rcases hj with hj | ⟨k', o', h1, h2, h3, h4⟩
          · left; rw [bitN_or, hj]; rfl
          · cases k' with
            | zero => left; rw [bitN_or, bitN_one]; simp; right; omega
            | succ k' => exact .inr ⟨k', o', by omega, by simpa using h2, h3, by omega⟩
      · cases h
theorem befOk_spec : ∀ (l : List AOper) (i : Nat), befOk l i = true → ∀ k o, l[k]? = some o → Nat.beq (Nat.shiftRight o.bef (i + k)) 0 = true := by
  intro l
  induction l with
  | nil => intro i _ k o e; simp at e
  | cons x l ih =>
    intro i h k o e
    change cnd (Nat.beq (Nat.shiftRight x.bef i) 0) (befOk l (i + 1)) false = true at h
    rw [cnd_eq] at h
    split at h
    · next hx =>
      cases k with
      | zero => simp at e; subst e; exact hx
      | succ k =>
        have := ih (i + 1) h k o (by simpa using e)
        rwa [show i + 1 + k = i + (k + 1) by omega] at this
    · cases h
theorem opersOk_spec {own : Tr Nat} {all : List AOper} : ∀ (l : List AOper) (i : Nat), opersOk own all l i = true → ∀ k o, l[k]? = some o → operOk own all (i + k) o = true := by
  intro l
  induction l with
  | nil => intro i _ k o e; simp at e
  | cons x l ih =>
    intro i h k o e
    change cnd (operOk own all i x) (opersOk own all l (i + 1)) false = true at h
    rw [cnd_eq] at h
    split at h
    · next hx =>
      cases k with
      | zero => simp at e; subst e; exact hx
      | succ k =>
        have := ih (i + 1) h k o (by simpa using e)
        rwa [show i + 1 + k = i + (k + 1) by omega] at this
    · cases h
theorem drawOk_spec {l : List AOper} (h : drawOk l = true) : ∃ own, ownF l 0 .nil = some own ∧ opersOk own l l 0 = true ∧ rowOk l 0 0 = true ∧ befOk l 0 = true := by
  unfold drawOk at h
  cases ho : ownF l 0 .nil with
  | none => rw [ho] at h; cases h
  | some own =>
    rw [ho] at h
    change cnd (opersOk own l l 0) (cnd (rowOk l 0 0) (befOk l 0) false) false = true at h
    rw [cnd_eq] at h
    split at h
    · next h1 =>
      rw [cnd_eq] at h
      split at h
      · next h2 =>
        exact ⟨own, rfl, h1, h2, h⟩
      · cases h
    · cases h

/-- what stands at a way is laid down ahead, or isn't yet -/
def PathIn (own : Tr Nat) (m : Nat → Nat) (k : Nat) (p : Pa) : Prop := ∀ j, own.at p = some j → bitN (m k) j = true ∨ bitN (m j) k = true
def OpdIn (own : Tr Nat) (m : Nat → Nat) (k : Nat) : AOpd → Prop
  | .t p => PathIn own m k p
  | _ => True
/-- all that is known of the run in the order of the text -/
structure Can (call : CallT) (lay : Lay) (nt : Nat) (ops : Array Oper) (H₀ : AH) (ρ₀ : Tr Value) where
  m : Nat → Nat
  L : Nat → AOper
  hL : ∀ k o, ops[k]? = some o → L k = pOper lay nt ops.toList k o (m k)
  m1 : ∀ k o, ops[k]? = some o → ∀ e ∈ o.after.toList, bindsG e.ground = true → bitN (m k) e.on = true
  m3 : ∀ k o, ops[k]? = some o → ∀ j, bitN (m k) j = true → ∃ e ∈ o.after.toList, bindsG e.ground = true ∧ (j = e.on ∨ bitN (m e.on) j = true)
  mlt : ∀ k, k < ops.size → ∀ j, bitN (m k) j = true → j < k
  mtr : ∀ k, k < ops.size → ∀ j, bitN (m k) j = true → ∀ x, bitN (m j) x = true → bitN (m k) x = true
  own : Tr Nat
  own1 : ∀ k p, k < ops.size → (L k).dst = some p → own.at p = some k
  own2 : ∀ p j, own.at p = some j → j < ops.size ∧ (L j).dst = some p
  opds : ∀ k, k < ops.size → ∀ x ∈ opdsOf (L k).op, OpdIn own m k x
  guard : ∀ k g, k < ops.size → (L k).guard = some g → PathIn own m k g.1
  row : ∀ k k', k < ops.size → 3 ≤ (L k).cls → k' < k → 3 ≤ (L k').cls → bitN (m k) k' = true
  bef : ∀ k, k < ops.size → (L k).bef = m k
  S : Nat → DS
  sk : Nat → Bool
  v : Nat → Value
  b : Nat → ABlk
  S0 : S 0 = ⟨0, ρ₀, ⟨H₀.next + ops.size, H₀.heap⟩, 0, 0, [], [], []⟩
  step : ∀ k, k < ops.size → DStep call H₀.next (L k) (S k) (S (k + 1)) (sk k) (v k) (b k)

theorem can_of {call : CallT} {lay : Lay} {nt : Nat} {ops : Array Oper} {H : AH} {ρ : Tr Value} {r : Tr Value × AH} (hd : drawOk (pOpers lay nt ops.toList ops.toList 0 []) = true)
    (h : drawD call (pOpers lay nt ops.toList ops.toList 0 []) (lenL (pOpers lay nt ops.toList ops.toList 0 [])) ρ H = some r) :
    ∃ C : Can call lay nt ops H ρ, r = ((C.S ops.size).ρ, addR (C.S ops.size).A (C.S ops.size).pend (C.S ops.size).H) := by
  obtain ⟨own, ho, h1, h2, h3⟩ := drawOk_spec hd
  obtain ⟨m, hm⟩ := pOpers_get (lay := lay) (nt := nt) (ops := ops.toList) ops.toList 0 []
  have hlen : (pOpers lay nt ops.toList ops.toList 0 []).length = ops.size := by rw [pOpers_len]; simp
  rw [lenL_eq, hlen] at h
  generalize hPL : pOpers lay nt ops.toList ops.toList 0 [] = PL at *
  obtain ⟨S, sk, v, b, g1, g2, g3⟩ := runD_chain PL ⟨0, ρ, ⟨H.next + ops.size, H.heap⟩, 0, 0, [], [], []⟩ (show runD call H.next PL 0 ρ ⟨Nat.add H.next ops.size, H.heap⟩ 0 0 [] [] [] = some r from h)
  rw [hlen] at g3
  have hget : ∀ k, (hk : k < ops.size) → PL[k]? = some (PL[k]'(by omega)) := fun k hk => List.getElem?_eq_getElem (by omega)
  have hL : ∀ k o, ops[k]? = some o → PL[k]? = some (pOper lay nt ops.toList k o (m k)) ∧ m k = maskOf k ((List.range k).reverse.map m) o.after.toList := by
    intro k o e
    have := hm k o (by rw [Array.getElem?_toList]; exact e)
    simpa using this
  let L : Nat → AOper := fun k => PL.getD k ⟨.bad, none, none, 0, 0⟩
  have hPLk : ∀ k, k < ops.size → PL[k]? = some (L k) := by
    intro k hk
    rw [hget k hk]
    show _ = some (PL.getD k _)
    rw [List.getD_eq_getElem?_getD, hget k hk]; rfl
  have hLk : ∀ k o, ops[k]? = some o → L k = pOper lay nt ops.toList k o (m k) := by
    intro k o e
    have hk : k < ops.size := (Array.getElem?_eq_some_iff.1 e).1
    have := (hL k o e).1
    rw [hPLk k hk] at this
    injection this
  have hops : ∀ k, k < ops.size → ∃ o, ops[k]? = some o := fun k hk => ⟨ops[k], Array.getElem?_eq_getElem hk⟩
  have hbef : ∀ k, k < ops.size → (L k).bef = m k := by
    intro k hk
    obtain ⟨o, e⟩ := hops k hk
    rw [hLk k o e]; rfl
  have hmlt : ∀ k, k < ops.size → ∀ j, bitN (m k) j = true → j < k := by
    intro k hk j hj
    have := befOk_spec PL 0 h3 k (L k) (hPLk k hk)
    rw [hbef k hk, Nat.zero_add] at this
    exact bitN_lt this hj
  have hnth : ∀ k j, j < k → nthL ((List.range k).reverse.map m) (Nat.sub (Nat.sub k 1) j) = some (m j) := by
    intro k j hj
    rw [nthL_eq]
    have e : Nat.sub (Nat.sub k 1) j = k - 1 - j := rfl
    rw [e, List.getElem?_map, List.getElem?_reverse (by simp; omega)]
    simp
    rw [List.getElem?_range (by omega)]
    simp; congr 1; omega
  have hm1 : ∀ k o, ops[k]? = some o → ∀ e ∈ o.after.toList, bindsG e.ground = true → bitN (m k) e.on = true := by
    intro k o e x hx hb
    rw [(hL k o e).2]; exact maskOf_one _ _ _ x hx hb
  have hm3 : ∀ k o, ops[k]? = some o → ∀ j, bitN (m k) j = true → ∃ e ∈ o.after.toList, bindsG e.ground = true ∧ (j = e.on ∨ bitN (m e.on) j = true) := by
    intro k o e j hj
    have hk : k < ops.size := (Array.getElem?_eq_some_iff.1 e).1
    have hj2 := hj
    rw [(hL k o e).2] at hj2
    obtain ⟨x, f1, f2, f3⟩ := maskOf_three _ _ _ j hj2
    refine ⟨x, f1, f2, ?_⟩
    rcases f3 with f3 | ⟨mm, f3, f4⟩
    · exact .inl f3
    · have hlt := hmlt k hk x.on (hm1 k o e x f1 f2)
      rw [hnth k x.on hlt] at f3
      injection f3 with f3; subst f3
      exact .inr f4
  have hm2 : ∀ k o, ops[k]? = some o → ∀ e ∈ o.after.toList, bindsG e.ground = true → ∀ j, bitN (m e.on) j = true → bitN (m k) j = true := by
    intro k o e x f1 f2 j hj
    have hk : k < ops.size := (Array.getElem?_eq_some_iff.1 e).1
    have hlt := hmlt k hk x.on (hm1 k o e x f1 f2)
    rw [(hL k o e).2]
    exact maskOf_two _ _ _ x (m x.on) j f1 f2 (hnth k x.on hlt) hj
  have hmtr : ∀ k, k < ops.size → ∀ j, bitN (m k) j = true → ∀ x, bitN (m j) x = true → bitN (m k) x = true := by
    intro k
    induction k using Nat.strongRecOn with
    | _ k ih =>
      intro hk j hj x hx
      obtain ⟨o, e⟩ := hops k hk
      obtain ⟨d, f1, f2, f3⟩ := hm3 k o e j hj
      have hlt := hmlt k hk d.on (hm1 k o e d f1 f2)
      rcases f3 with f3 | f3
      · subst f3; exact hm2 k o e d f1 f2 x hx
      · exact hm2 k o e d f1 f2 x (ih d.on hlt (by omega) j f3 x hx)
  obtain ⟨w1, w2, w3⟩ := ownF_spec PL 0 .nil own ho
  have hpath : ∀ k p, k < ops.size → pathIn own PL k (L k).bef p = true → PathIn own m k p := by
    intro k p hk h j hj
    unfold pathIn at h
    rw [hj] at h
    change cnd (bitN (L k).bef j) true (Option.rec false (fun o : AOper => bitN o.bef k) (nthL PL j)) = true at h
    rw [cnd_eq, hbef k hk] at h
    split at h
    · next h2 => exact .inl h2
    · right
      rw [nthL_eq] at h
      cases hx : PL[j]? with
      | none => rw [hx] at h; cases h
      | some o =>
        rw [hx] at h
        have hj : j < ops.size := by
          rcases Nat.lt_or_ge j ops.size with h | h
          · exact h
          · rw [List.getElem?_eq_none (by omega)] at hx; cases hx
        rw [hPLk j hj] at hx; injection hx with hx; subst hx
        have h : bitN (L j).bef k = true := h
        rw [hbef j hj] at h; exact h
  refine ⟨⟨m, L, hLk, hm1, hm3, hmlt, hmtr, own, ?_, ?_, ?_, ?_, ?_, hbef, S, sk, v, b, g1, fun k hk => g2 k (L k) (hPLk k hk)⟩, ?_⟩
  · intro k p hk hp
    have := w2 k (L k) p (hPLk k hk) hp
    simpa using this
  · intro p j e
    rcases w3 p j e with e | ⟨k, o, e1, e2, e3⟩
    · rw [Tr.at_nil] at e; cases e
    · have hk : k < ops.size := by
        rcases Nat.lt_or_ge k ops.size with h | h
        · exact h
        · rw [List.getElem?_eq_none (by omega)] at e1; cases e1
      have : j = k := by omega
      subst this
      refine ⟨hk, ?_⟩
      rw [hPLk j hk] at e1; injection e1 with e1; rw [e1]; exact e3
  · intro k hk x hx
    have := opersOk_spec PL 0 h1 k (L k) (hPLk k hk)
    rw [Nat.zero_add] at this
    unfold operOk at this
    rw [cnd_eq] at this
    split at this
    · next h4 =>
      rw [allL_eq, List.all_eq_true] at h4
      have h5 := h4 x hx
      cases x with
      | t p => exact hpath k p hk h5
      | _ => trivial
    · cases this
  · intro k g hk hg
    have := opersOk_spec PL 0 h1 k (L k) (hPLk k hk)
    rw [Nat.zero_add] at this
    unfold operOk at this
    rw [cnd_eq] at this
    split at this
    · rw [hg] at this
      exact hpath k g.1 hk this
    · cases this
  · intro k k' hk hc hlt hc'
    have := rowOk_spec PL 0 0 h2 k (L k) (hPLk k hk) hc k' (.inr ⟨k', L k', hlt, hPLk k' (by omega), hc', by omega⟩)
    rw [hbef k hk] at this; exact this
  · unfold endD at g3
    rw [AH.seq_eq] at g3
    injection g3 with g3
    exact g3.symm
end Go.Rem
/-! Regions whose order is open: any order, against the order of the text. -/
namespace Go.Rem

namespace Can
variable {call : CallT} {lay : Lay} {nt : Nat} {ops : Array Oper} {H₀ : AH} {ρ₀ : Tr Value} (C : Can call lay nt ops H₀ ρ₀)

def W (k : Nat) : Prop := k < ops.size ∧ 3 ≤ (C.L k).cls ∧ C.sk k = false
def N (k : Nat) : Prop := k < ops.size ∧ (C.L k).cls = 2 ∧ C.sk k = false
def R (k : Nat) : Prop := k < ops.size ∧ (C.L k).cls = 1 ∧ C.sk k = false

theorem iS : ∀ k, k ≤ ops.size → (C.S k).i = k := by
  intro k
  induction k with
  | zero => intro _; rw [C.S0]
  | succ k ih => intro hk; rw [(C.step k (by omega)).fi.1, ih (by omega)]
theorem rho_at : ∀ k, k ≤ ops.size → ∀ p, (C.S k).ρ.at p = match C.own.at p with | some j => if j < k then some (C.v j) else ρ₀.at p | none => ρ₀.at p := by
  intro k
  induction k with
  | zero => intro _ p; rw [C.S0]; cases C.own.at p <;> simp
  | succ k ih =>
    intro hk p
    have hk' : k < ops.size := by omega
    rw [(C.step k hk').fi.2]
    have h0 := ih (by omega) p
    cases hd : (C.L k).dst with
    | none =>
      show (C.S k).ρ.at p = _
      rw [h0]
      cases ho : C.own.at p with
      | none => rfl
      | some j =>
        have hj : j ≠ k := fun e => by
          have := (C.own2 p j ho).2
          rw [e, hd] at this; cases this
        simp only
        by_cases h1 : j < k
        · rw [if_pos h1, if_pos (by omega)]
        · rw [if_neg h1, if_neg (by omega)]
    | some q =>
      show ((C.S k).ρ.put q (C.v k)).at p = _
      have hq := C.own1 k q hk' hd
      by_cases hpq : p = q
      · subst hpq
        rw [Tr.at_put_same, hq]
        simp
      · rw [Tr.at_put_ne _ _ _ _ hpq, h0]
        cases ho : C.own.at p with
        | none => rfl
        | some j =>
          have hj : j ≠ k := fun e => by
            have := (C.own2 p j ho).2
            rw [e, hd] at this; injection this with this; exact hpq this.symm
          simp only
          by_cases h1 : j < k
          · rw [if_pos h1, if_pos (by omega)]
          · rw [if_neg h1, if_neg (by omega)]
theorem keep (k : Nat) (hk : k < ops.size) (h : ¬ C.W k) : (C.S (k + 1)).H = (C.S k).H ∧ (C.S (k + 1)).A = (C.S k).A ∧ (C.S (k + 1)).W = (C.S k).W ∧ (C.S (k + 1)).hist = (C.S k).hist :=
  (C.step k hk).keep fun e => h ⟨hk, e.1, e.2⟩
theorem stage_keep (s : Nat) : ∀ t, s ≤ t → t ≤ ops.size → (∀ j, s ≤ j → j < t → ¬ C.W j) → (C.S t).H = (C.S s).H ∧ (C.S t).A = (C.S s).A ∧ (C.S t).W = (C.S s).W := by
  intro t
  induction t with
  | zero => intro h _ _; have : s = 0 := by omega
            subst this; exact ⟨rfl, rfl, rfl⟩
  | succ t ih =>
    intro h1 h2 h3
    by_cases e : s = t + 1
    · subst e; exact ⟨rfl, rfl, rfl⟩
    · obtain ⟨g1, g2, g3⟩ := ih (by omega) (by omega) fun j a b => h3 j a (by omega)
      obtain ⟨f1, f2, f3, _⟩ := C.keep t (by omega) (h3 t (by omega) (by omega))
      exact ⟨f1.trans g1, f2.trans g2, f3.trans g3⟩
theorem stage_eq {s t : Nat} (hs : s ≤ ops.size) (ht : t ≤ ops.size) (h : ∀ j, C.W j → (j < t ↔ j < s)) : (C.S t).H = (C.S s).H ∧ (C.S t).A = (C.S s).A ∧ (C.S t).W = (C.S s).W := by
  rcases Nat.le_total s t with l | l
  · exact C.stage_keep s t l ht fun j a b w => by have := (h j w).1 b; omega
  · obtain ⟨f1, f2, f3⟩ := C.stage_keep t s l hs fun j a b w => by have := (h j w).2 b; omega
    exact ⟨f1.symm, f2.symm, f3.symm⟩
theorem hist_has : ∀ t, t ≤ ops.size → ∀ s, s ≤ t → (∃ j, s ≤ j ∧ j < t ∧ C.W j) → DStage.mk (C.S s).H (C.S s).A (C.S s).W ∈ (C.S t).hist := by
  intro t
  induction t with
  | zero => intro _ s _ ⟨j, _, h, _⟩; omega
  | succ t ih =>
    intro ht s hs hj
    by_cases hw : C.W t
    · have h1 := (C.step t (by omega)).wr hw.2.1 hw.2.2
      rw [h1.2.2.2.2.2]
      by_cases hx : ∃ j, s ≤ j ∧ j < t ∧ C.W j
      · exact List.mem_cons_of_mem _ (ih (by omega) s (by obtain ⟨j, a, b, _⟩ := hx; omega) hx)
      · have hst : s ≤ t := by obtain ⟨j, a, b, _⟩ := hj; omega
        obtain ⟨f1, f2, f3⟩ := C.stage_keep s t hst (by omega) fun j a b w => hx ⟨j, a, b, w⟩
        rw [← f1, ← f2, ← f3]; exact List.mem_cons_self ..
    · rw [(C.keep t (by omega) hw).2.2.2]
      obtain ⟨j, a, b, w⟩ := hj
      have : j ≠ t := fun e => hw (e ▸ w)
      exact ih (by omega) s (by omega) ⟨j, a, by omega, w⟩
theorem log_has (j : Nat) (hj : C.R j) : ∀ t, t ≤ ops.size → j < t → DLog.mk j (C.m j) (C.S j).ρ (C.L j).op (C.v j) ∈ (C.S t).log := by
  intro t
  induction t with
  | zero => intro _ h; omega
  | succ t ih =>
    intro ht h
    have hl := (C.step t (by omega)).lg
    by_cases e : j = t
    · subst e
      have := hl.1 hj.2.1 hj.2.2
      rw [this, C.iS j (by omega), C.bef j hj.1]
      exact List.mem_cons_self ..
    · exact hl.2 _ (ih (by omega) (by omega))
theorem W_bits : ∀ t, t ≤ ops.size → ∀ j, bitN (C.S t).W j = true ↔ j < t ∧ C.W j := by
  intro t
  induction t with
  | zero => intro _ j; rw [C.S0]; simp [bitN_zero]
  | succ t ih =>
    intro ht j
    have h0 := ih (by omega) j
    by_cases hw : C.W t
    · have h1 := (C.step t (by omega)).wr hw.2.1 hw.2.2
      rw [h1.2.2.2.2.1, bitN_or, bitN_one, C.iS t (by omega), Bool.or_eq_true, h0]
      constructor
      · rintro (⟨a, b⟩ | e)
        · exact ⟨by omega, b⟩
        · have e : t = j := by simpa using e
          subst e; exact ⟨by omega, hw⟩
      · rintro ⟨a, b⟩
        by_cases e : j = t
        · right; simp [e]
        · exact .inl ⟨by omega, b⟩
    · rw [(C.keep t (by omega) hw).2.2.1, h0]
      constructor
      · rintro ⟨a, b⟩; exact ⟨by omega, b⟩
      · rintro ⟨a, b⟩
        have : j ≠ t := fun e => hw (e ▸ b)
        exact ⟨by omega, b⟩
theorem A_bits : ∀ t, t ≤ ops.size → ∀ i, bitN (C.S t).A i = true → ∃ j, j < t ∧ C.W j ∧ bitN (C.m j) i = true := by
  intro t
  induction t with
  | zero => intro _ i h; rw [C.S0] at h; change bitN 0 i = true at h; rw [bitN_zero] at h; cases h
  | succ t ih =>
    intro ht i h
    by_cases hw : C.W t
    · have h1 := (C.step t (by omega)).wr hw.2.1 hw.2.2
      rw [h1.2.2.2.1, C.bef t (by omega)] at h
      exact ⟨t, by omega, hw, h⟩
    · rw [(C.keep t (by omega) hw).2.1] at h
      obtain ⟨j, a, b⟩ := ih (by omega) i h
      exact ⟨j, by omega, b⟩
theorem pend_mem : ∀ t, t ≤ ops.size → ∀ e, e ∈ (C.S t).pend ↔ ∃ i, i < t ∧ C.N i ∧ e = (i, H₀.next + i, C.b i) := by
  intro t
  induction t with
  | zero => intro _ e; rw [C.S0]; simp
  | succ t ih =>
    intro ht e
    have h0 := ih (by omega) e
    have hp := (C.step t (by omega)).pd
    by_cases hn : C.N t
    · rw [hp.1 hn.2.1 hn.2.2, List.mem_cons, h0, C.iS t (by omega)]
      constructor
      · rintro (e | ⟨i, a, b, c⟩)
        · exact ⟨t, by omega, hn, e⟩
        · exact ⟨i, by omega, b, c⟩
      · rintro ⟨i, a, b, c⟩
        by_cases e : i = t
        · subst e; exact .inl c
        · exact .inr ⟨i, by omega, b, c⟩
    · rw [hp.2 (fun e => hn ⟨by omega, e.1, e.2⟩), h0]
      constructor
      · rintro ⟨i, a, b, c⟩; exact ⟨i, by omega, b, c⟩
      · rintro ⟨i, a, b, c⟩
        have : i ≠ t := fun e => hn (e ▸ b)
        exact ⟨i, by omega, b, c⟩
theorem pend_ok (t : Nat) (ht : t ≤ ops.size) : ∀ e ∈ (C.S t).pend, e.2.1 = H₀.next + e.1 ∧ e.2.2 = C.b e.1 := by
  intro e he
  obtain ⟨i, _, _, rfl⟩ := (C.pend_mem t ht e).1 he
  exact ⟨rfl, rfl⟩
/-- what comes later doesn't count for a mask -/
theorem addB_pend (bef A : Nat) (H : AH) (s : Nat) (hb : ∀ i, bitN bef i = true → i < s) : ∀ t, s ≤ t → t ≤ ops.size → addB bef A (C.S t).pend H = addB bef A (C.S s).pend H := by
  intro t
  induction t with
  | zero => intro h _; have : s = 0 := by omega
            subst this; rfl
  | succ t ih =>
    intro h1 h2
    by_cases e : s = t + 1
    · subst e; rfl
    · have h0 := ih (by omega) (by omega)
      have hp := (C.step t (by omega)).pd
      by_cases hn : C.N t
      · rw [hp.1 hn.2.1 hn.2.2, C.iS t (by omega)]
        show cnd (cnd (bitN bef t) (cnd (bitN A t) false true) false) ((addB bef A (C.S t).pend H).put (H₀.next + t) (C.b t)) (addB bef A (C.S t).pend H) = _
        have : bitN bef t = false := by
          cases hx : bitN bef t with
          | false => rfl
          | true => have := hb t hx; omega
        rw [this]; exact h0
      · rw [hp.2 (fun e => hn ⟨by omega, e.1, e.2⟩)]; exact h0

/-- the heap behind what is done: the writers up to t, and what has been made -/
noncomputable def G (D : Nat → Bool) (t : Nat) : AH := addQ (fun i => D i && !bitN (C.S t).A i) (C.S ops.size).pend (C.S t).H
/-- what a mask lets in -/
noncomputable def small (k t : Nat) : AH := addB (C.m k) (C.S t).A (C.S ops.size).pend (C.S t).H
theorem G_next (D : Nat → Bool) (t : Nat) : (C.G D t).next = (C.S t).H.next := addQ_next _ _ _
theorem small_next (k t : Nat) : (C.small k t).next = (C.S t).H.next := by unfold small; rw [addB_eq]; exact addQ_next _ _ _
theorem addN_in (f : Nat → Bool) (H : AH) (i : Nat) (hi : C.N i) (hf : f i = true) : (addQ f (C.S ops.size).pend H).get (H₀.next + i) = some (C.b i) :=
  addQ_in (C.pend_ok _ (Nat.le_refl _)) ⟨_, (C.pend_mem _ (Nat.le_refl _) _).2 ⟨i, hi.1, hi, rfl⟩, rfl⟩ hf
theorem addN_out (f : Nat → Bool) (H : AH) (c : Nat) (hc : ∀ i, C.N i → f i = true → H₀.next + i ≠ c) : (addQ f (C.S ops.size).pend H).get c = H.get c := by
  refine addQ_out (C.pend_ok _ (Nat.le_refl _)) ?_
  intro e he hf
  obtain ⟨i, _, h2, rfl⟩ := (C.pend_mem _ (Nat.le_refl _) e).1 he
  exact hc i h2 hf

/-- what is kept to while a region is under way -/
structure Inv (P : Program) (ι₀ : Ren) (w₀ : World) (D : Nat → Bool) (t : Nat) (ρ : Tr Value) (ι : Ren) (a : Act) (w : World) : Prop where
  dlt : ∀ i, D i = true → i < ops.size
  closed : ∀ i, D i = true → ∀ j, bitN (C.m i) j = true → D j = true
  tN : t ≤ ops.size
  wrs : ∀ j, C.W j → (D j = true ↔ j < t)
  rho : ∀ p, ρ.at p = match C.own.at p with | some j => if D j = true then some (C.v j) else ρ₀.at p | none => ρ₀.at p
  ac : AcR ι nt ρ a
  heap : HRel P ι (C.G D t) w
  nx : H₀.next + ops.size ≤ (C.S t).H.next
  q : ∀ i, C.N i → bitN (C.S t).A i = false → (C.S t).H.get (H₀.next + i) = none
  qd : ∀ i, C.N i → bitN (C.S t).A i = true → D i = true
  free : ∀ i, C.N i → D i = false → ι (H₀.next + i) = none
  ext : Ext ι₀ ι H₀ (C.G D t) w₀ w

section
variable {C} {P : Program} {ι₀ : Ren} {w₀ : World} {D : Nat → Bool} {t : Nat} {ρ : Tr Value} {ι : Ren} {a : Act} {w : World} (I : C.Inv P ι₀ w₀ D t ρ ι a w)
include I

theorem Inv.agree {k : Nat} (hk : k < ops.size) (hD : D k = false) (hr : ∀ j, bitN (C.m k) j = true → D j = true) {p : Pa} (hp : PathIn C.own C.m k p) : ρ.at p = (C.S k).ρ.at p := by
  rw [I.rho p, C.rho_at k (by omega) p]
  cases ho : C.own.at p with
  | none => rfl
  | some j =>
    rcases hp j ho with h | h
    · simp only [hr j h, C.mlt k hk j h, if_true]
    · have hj := (C.own2 p j ho).1
      have h1 : D j = false := by
        cases hx : D j with
        | false => rfl
        | true => have := I.closed j hx k h; rw [hD] at this; cases this
      have h2 : ¬ j < k := by have := C.mlt j hj k h; omega
      simp only [h1, h2, if_false, Bool.false_eq_true]
theorem Inv.opA_eq {k : Nat} (hk : k < ops.size) (hD : D k = false) (hr : ∀ j, bitN (C.m k) j = true → D j = true) (H : AH) : opA ρ H (C.L k).op = opA (C.S k).ρ H (C.L k).op := by
  refine opA_congr (fun x hx => ?_) H
  have := C.opds k hk x hx
  cases x with
  | t p => exact I.agree hk hD hr this
  | c v => rfl
  | f n => rfl
  | bad => rfl
/-- what is read is the same at any time at which it may be read -/
theorem Inv.read {k : Nat} (hR : C.R k) (hD : D k = false) (hr : ∀ j, bitN (C.m k) j = true → D j = true) : evalR (C.S k).ρ (C.L k).op (C.small k t) = some (C.v k) := by
  have hk := hR.1
  obtain ⟨_, h1, h2⟩ := (C.step k hk).rd hR.2.1 hR.2.2
  rw [C.bef k hk] at h1 h2
  have hp : ∀ A H s, k ≤ s → s ≤ ops.size → addB (C.m k) A (C.S s).pend H = addB (C.m k) A (C.S k).pend H := fun A H s a b => C.addB_pend _ A H k (fun i hi => C.mlt k hk i hi) s a b
  have hN := hp (C.S t).A (C.S t).H ops.size (by omega) (Nat.le_refl _)
  rcases Nat.lt_or_ge k t with hlt | hle
  · have key : ∀ s, k ≤ s → s ≤ t → evalR (C.S k).ρ (C.L k).op (addB (C.m k) (C.S s).A (C.S k).pend (C.S s).H) = some (C.v k) := by
      intro s
      induction s with
      | zero => intro a b; have : k = 0 := by omega
                subst this; exact h1
      | succ s ih =>
        intro a b
        by_cases e : k = s + 1
        · rw [← e]; exact h1
        · have g := ih (by omega) (by omega)
          have hs : s < ops.size := Nat.lt_of_lt_of_le (by omega : s < t) I.tN
          by_cases hw : C.W s
          · obtain ⟨_, _, f3, f4, _⟩ := (C.step s hs).wr hw.2.1 hw.2.2
            have hks : k ≠ s := fun e => by
              have := hw.2.1; rw [← e, hR.2.1] at this; omega
            have hb : bitN (C.m s) k = false := by
              cases hx : bitN (C.m s) k with
              | false => rfl
              | true =>
                have := I.closed s ((I.wrs s hw).2 (by omega)) k hx
                rw [hD] at this; cases this
            rw [C.bef s hs] at f3 f4
            have := logOk_mem f3 (C.log_has k hR s (by omega) (by omega)) hb
            rw [f4, ← hp _ _ s (by omega) (by omega)]; exact this
          · obtain ⟨f1, f2, _⟩ := C.keep s hs hw
            rw [f1, f2]; exact g
    unfold small
    rw [hN]; exact key t (by omega) (Nat.le_refl _)
  · unfold small
    rw [hN]
    by_cases hx : ∃ j, t ≤ j ∧ j < k ∧ C.W j
    · refine stagesOk_mem h2 (C.hist_has k (by omega) t hle hx) ?_
      intro i hi hw
      have hw2 := ((C.W_bits k (by omega) i).1 hw).2
      exact (C.W_bits t I.tN i).2 ⟨(I.wrs i hw2).1 (hr i hi), hw2⟩
    · obtain ⟨f1, f2, _⟩ := C.stage_keep t k hle (by omega) fun j a b w => hx ⟨j, a, b, w⟩
      rw [← f1, ← f2]; exact h1
theorem Inv.sub {k : Nat} (hr : ∀ j, bitN (C.m k) j = true → D j = true) (c : Nat) : (C.small k t).get c = none ∨ (C.small k t).get c = (C.G D t).get c := by
  unfold small G
  rw [addB_eq]
  by_cases hc : ∃ i, C.N i ∧ D i = true ∧ bitN (C.S t).A i = false ∧ H₀.next + i = c
  · obtain ⟨i, h1, h2, h3, rfl⟩ := hc
    rw [C.addN_in (fun i => D i && !bitN (C.S t).A i) _ i h1 (by simp [h2, h3])]
    cases hb : bitN (C.m k) i with
    | true => right; exact C.addN_in _ _ i h1 (by simp [hb, h3])
    | false =>
      left
      rw [C.addN_out _ _ _ (fun j hj hf e => by
        have : j = i := by omega
        subst this; simp [hb] at hf)]
      exact I.q i h1 h3
  · right
    rw [C.addN_out _ _ c (fun j hj hf e => hc ⟨j, hj, by simp at hf; exact hr j hf.1, by simp at hf; exact hf.2, e⟩),
      C.addN_out _ _ c (fun j hj hf e => hc ⟨j, hj, by simp at hf; exact hf.1, by simp at hf; exact hf.2, e⟩)]
end
end Can
end Go.Rem
/-! Regions whose order is open: one operation, in any order; the end. -/
namespace Go.Rem
namespace Can
variable {call : CallT} {lay : Lay} {nt : Nat} {ops : Array Oper} {H₀ : AH} {ρ₀ : Tr Value} {C : Can call lay nt ops H₀ ρ₀}

/-- one more is done -/
def ext1 (D : Nat → Bool) (k : Nat) : Nat → Bool := fun i => D i || decide (i = k)
theorem ext1_self (D : Nat → Bool) (k : Nat) : ext1 D k k = true := by simp [ext1]
theorem ext1_ne {D : Nat → Bool} {k i : Nat} (h : i ≠ k) : ext1 D k i = D i := by simp [ext1, h]
theorem ext1_of {D : Nat → Bool} {k i : Nat} (h : D i = true) : ext1 D k i = true := by simp [ext1, h]

section
variable {P : Program} {ι₀ : Ren} {w₀ : World} {D : Nat → Bool} {t : Nat} {ρ : Tr Value} {ι : Ren} {a : Act} {w : World} (I : C.Inv P ι₀ w₀ D t ρ ι a w)
include I

theorem Inv.rho1 {k : Nat} (hk : k < ops.size) (hD : D k = false) (p : Pa) : (putT ρ (C.L k).dst (C.v k)).at p = match C.own.at p with | some j => if ext1 D k j = true then some (C.v j) else ρ₀.at p | none => ρ₀.at p := by
  have h0 := I.rho p
  cases hd : (C.L k).dst with
  | none =>
    show ρ.at p = _
    rw [h0]
    cases ho : C.own.at p with
    | none => rfl
    | some j =>
      have hj : j ≠ k := fun e => by have := (C.own2 p j ho).2; rw [e, hd] at this; cases this
      simp only [ext1_ne hj]
  | some q =>
    show (ρ.put q (C.v k)).at p = _
    have hq := C.own1 k q hk hd
    by_cases hpq : p = q
    · subst hpq; rw [Tr.at_put_same, hq]; simp [ext1_self]
    · rw [Tr.at_put_ne _ _ _ _ hpq, h0]
      cases ho : C.own.at p with
      | none => rfl
      | some j =>
        have hj : j ≠ k := fun e => by have := (C.own2 p j ho).2; rw [e, hd] at this; injection this with this; exact hpq this.symm
        simp only [ext1_ne hj]
theorem Inv.closed1 {k : Nat} (hr : ∀ j, bitN (C.m k) j = true → D j = true) (i : Nat) (hi : ext1 D k i = true) (j : Nat) (hj : bitN (C.m i) j = true) : ext1 D k j = true := by
  by_cases e : i = k
  · subst e; exact ext1_of (hr j hj)
  · rw [ext1_ne e] at hi; exact ext1_of (I.closed i hi j hj)
theorem Inv.dlt1 {k : Nat} (hk : k < ops.size) (i : Nat) (hi : ext1 D k i = true) : i < ops.size := by
  by_cases e : i = k
  · subst e; exact hk
  · rw [ext1_ne e] at hi; exact I.dlt i hi

omit I in
theorem addQ_congr {f g : Nat → Bool} {pend : DPend} {H : AH} (h : ∀ e ∈ pend, f e.1 = g e.1) : addQ f pend H = addQ g pend H := by
  induction pend with
  | nil => rfl
  | cons p pend ih =>
    show cnd (f p.1) ((addQ f pend H).put p.2.1 p.2.2) (addQ f pend H) = cnd (g p.1) ((addQ g pend H).put p.2.1 p.2.2) (addQ g pend H)
    rw [h p (by simp), ih fun e he => h e (by simp [he])]
omit I in
theorem G_ext1 {k : Nat} (hk : ¬ C.N k) (t : Nat) : C.G (ext1 D k) t = C.G D t := by
  unfold G
  refine addQ_congr fun e he => ?_
  obtain ⟨i, _, h2, rfl⟩ := (C.pend_mem _ (Nat.le_refl _) e).1 he
  have : i ≠ k := fun e => hk (e ▸ h2)
  simp only [ext1_ne this]

/-- what leaves the heap as it is -/
theorem Inv.next {k : Nat} (hk : k < ops.size) (hD : D k = false) (hr : ∀ j, bitN (C.m k) j = true → D j = true) (hN : ¬ C.N k) (hW : ¬ C.W k) {ι' : Ren} {a' : Act} {w' : World}
    (hac : AcR ι' nt (putT ρ (C.L k).dst (C.v k)) a') (hh : HRel P ι' (C.G D t) w') (hx : Ext ι ι' (C.G D t) (C.G D t) w w') :
    C.Inv P ι₀ w₀ (ext1 D k) t (putT ρ (C.L k).dst (C.v k)) ι' a' w' where
  dlt := I.dlt1 hk
  closed := I.closed1 hr
  tN := I.tN
  wrs j hj := by
    have : j ≠ k := fun e => hW (e ▸ hj)
    rw [ext1_ne this]; exact I.wrs j hj
  rho := I.rho1 hk hD
  ac := hac
  heap := by rw [G_ext1 hN]; exact hh
  nx := I.nx
  q := I.q
  qd i hi hb := ext1_of (I.qd i hi hb)
  free i hi hd := by
    have hne : i ≠ k := fun e => hN (e ▸ hi)
    rw [ext1_ne hne] at hd
    have h0 := I.free i hi hd
    cases h1 : ι' (H₀.next + i) with
    | none => rfl
    | some p =>
      rcases hx.only _ p h1 with h2 | h2
      · rw [h0] at h2; cases h2
      · rw [C.G_next] at h2
        have := I.nx; have := hi.1; omega
  ext := by rw [G_ext1 hN]; exact I.ext.trans hx

theorem Inv.A_le {k : Nat} (hW : C.W k) (hD : D k = false) (hr : ∀ j, bitN (C.m k) j = true → D j = true) : (∀ j, C.W j → (j < t ↔ j < k)) ∧ (∀ i, bitN (C.S t).A i = true → bitN (C.m k) i = true) := by
  have h1 : ∀ j, C.W j → (j < t ↔ j < k) := by
    intro j hj
    rw [← I.wrs j hj]
    constructor
    · intro h
      rcases Nat.lt_trichotomy j k with l | l | l
      · exact l
      · subst l; rw [hD] at h; cases h
      · have := I.closed j h k (C.row j k hj.1 hj.2.1 l hW.2.1)
        rw [hD] at this; cases this
    · intro h
      exact hr j (C.row k j hW.1 hW.2.1 h hj.2.1)
  refine ⟨h1, fun i hi => ?_⟩
  obtain ⟨j, a1, a2, a3⟩ := C.A_bits t I.tN i hi
  have hj := (h1 j a2).1 a1
  exact C.mtr k hW.1 j (C.row k j hW.1 hW.2.1 hj a2.2.1) i a3

theorem Inv.step {hS : SoundC P call} {hL : LayOK P lay} {Q : Exit → Act → World → Prop} {K : Act → World → Prop} {k : Nat} (hk : k < ops.size) (hD : D k = false) (hr : ∀ j, bitN (C.m k) j = true → D j = true)
    (hK : ∀ t' ρ' ι' a' w', C.Inv P ι₀ w₀ (ext1 D k) t' ρ' ι' a' w' → K a' w') : wpOp P ops Q k K a w := by
  obtain ⟨o, ho⟩ : ∃ o, ops[k]? = some o := ⟨ops[k], Array.getElem?_eq_getElem hk⟩
  have hLk := C.hL k o ho
  obtain ⟨c1, c2, c3, c4⟩ := pOper_cases (lay := lay) (nt := nt) (i := k) (m := C.m k) (ops := ops.toList) (o := o)
  rw [← hLk] at c1 c2 c3 c4
  have hst := C.step k hk
  have hwant : ∀ g b, (C.L k).guard = some g → wanted (C.S k).ρ g = some b → Region.wanted o (yielded ops a.tmps) = b := by
    intro g b hg hw
    rw [c2] at hg
    refine wanted_ok I.ac hg ?_
    have := I.agree hk hD hr (C.guard k g hk (by rw [c2]; exact hg))
    unfold wanted at hw ⊢
    rw [this]; exact hw
  unfold wpOp
  rw [ho]
  simp only
  cases hsk : C.sk k with
  | true =>
    obtain ⟨⟨g, hg, hw⟩, hv⟩ := hst.sp hsk
    have hf := hwant g false hg hw
    simp only [hf, Bool.false_eq_true, if_false]
    refine hK t (putT ρ (C.L k).dst (C.v k)) ι _ w ?_
    refine I.next hk hD hr (fun h => by have := h.2.2; rw [hsk] at this; cases this) (fun h => by have := h.2.2; rw [hsk] at this; cases this) ?_ I.heap (Ext.refl _ _ _)
    rw [hv, c1]; exact I.ac.put_undef o.dst
  | false =>
    have hgo : ∀ (x : Option (AOut × AH)), GoD (C.L k) (C.S k).ρ → opA ρ (C.G D t) (C.L k).op = x ∨ True → ((C.L k).op ≠ .bad) → Region.wanted o (yielded ops a.tmps) = true := by
      intro _ hgd _ hnb
      rcases hgd with hg | ⟨g, hg, hw⟩
      · rcases c4 with c4 | ⟨_, _, _, c6⟩
        · exact absurd c4 hnb
        · cases hgg : o.guard with
          | none => unfold Region.wanted; rw [hgg]
          | some jw =>
            have := c6 (by rw [hgg]; rfl)
            rw [c2] at hg; rw [hg] at this; cases this
      · exact hwant g true hg hw
    have hcls : (C.L k).cls = clsOf (C.L k).op := by rw [hLk]; rfl
    have hnbad : (C.L k).cls ≤ 2 → (C.L k).op ≠ .bad := by
      intro h e
      rw [hcls, e] at h
      exact absurd h (by decide)
    have hclasses : (C.L k).cls = 0 ∨ (C.L k).cls = 1 ∨ (C.L k).cls = 2 ∨ 3 ≤ (C.L k).cls := by omega
    rcases hclasses with hc | hc | hc | hc
    · obtain ⟨hgd, hv⟩ := hst.pl hc hsk
      have hnb := hnbad (by omega)
      rcases c4 with c4 | ⟨c4, c5, _, _⟩
      · exact absurd c4 hnb
      simp only [hgo none hgd (.inr trivial) hnb, if_true]
      obtain ⟨y, hy⟩ := cls0_eq (ρ := (C.S k).ρ) (by rw [← hcls]; exact hc)
      have : y = some (C.v k) := by rw [← evalR_outV (hy _)]; exact hv
      subst this
      have he : opA ρ (C.G D t) (C.L k).op = some (.val (C.v k), C.G D t) := by rw [I.opA_eq hk hD hr, hy]; rfl
      rw [c4] at he
      refine .inl (step_ok hS hL I.heap I.ac.ev (v := C.v k) (H' := C.G D t) (by rw [he]; rfl) ?_)
      intro ι' c w' k1 k2 k3
      refine hK t _ ι' _ w' (I.next hk hD hr (fun h => by have := h.2.1; omega) (fun h => by have := h.2.1; omega) ?_ k2 k3)
      rw [c1]; exact (I.ac.mono k3.le).put c5 k1
    · obtain ⟨hgd, _, _⟩ := hst.rd hc hsk
      have hnb := hnbad (by omega)
      rcases c4 with c4 | ⟨c4, c5, _, _⟩
      · exact absurd c4 hnb
      simp only [hgo none hgd (.inr trivial) hnb, if_true]
      have hread := I.read ⟨hk, hc, hsk⟩ hD hr
      obtain ⟨y, hy⟩ := cls1_eq (ρ := (C.S k).ρ) (by rw [← hcls]; exact hc) (C.small k t)
      have : y = some (C.v k) := by rw [← evalR_outV hy]; exact hread
      subst this
      have he : opA ρ (C.small k t) (C.L k).op = some (.val (C.v k), C.small k t) := by rw [I.opA_eq hk hD hr, hy]; rfl
      rw [c4] at he
      have hsn : (C.small k t).next = (C.G D t).next := by rw [C.small_next, C.G_next]
      refine .inl (step_ok hS hL (I.heap.sub (I.sub hr) hsn) I.ac.ev (v := C.v k) (H' := C.small k t) (by rw [he]; rfl) ?_)
      intro ι' c w' k1 k2 k3
      obtain ⟨f1, f2⟩ := frame I.heap (I.sub hr) hsn k2 k3 (G' := C.G D t) (fun b q e1 e2 => e2) (fun b hb => by
        rcases I.sub hr b with e | e
        · rcases hb with hb | hb
          · exact absurd e hb
          · rw [e, hb]
        · exact e.symm) hsn.symm
      refine hK t _ ι' _ w' (I.next hk hD hr (fun h => by have := h.2.1; omega) (fun h => by have := h.2.1; omega) ?_ f1 f2)
      rw [c1]; exact (I.ac.mono k3.le).put c5 k1
    · obtain ⟨hgd, H', hv, hb⟩ := hst.nw hc hsk
      have hnb := hnbad (by omega)
      rcases c4 with c4 | ⟨c4, c5, _, _⟩
      · exact absurd c4 hnb
      simp only [hgo none hgd (.inr trivial) hnb, if_true]
      rw [C.iS k (by omega)] at hv hb
      rw [← I.opA_eq hk hD hr, c4] at hv
      have hNk : C.N k := ⟨hk, hc, hsk⟩
      obtain ⟨kk, mk, e1, e2, x, ob, c, e3, e4, e5, e6⟩ := new_ok (w := w) I.ac.ev lay hL (by rw [← c4, ← hcls]; exact hc) hv
      rw [hb] at e2; injection e2 with e2; subst e2
      injection e1 with e1
      left
      unfold Oper.wp
      rw [e3, Oper.upon_value]
      have hfree := I.free k hNk hD
      have hAk : bitN (C.S t).A k = false := by
        cases h : bitN (C.S t).A k with
        | false => rfl
        | true => have := I.qd k hNk h; rw [hD] at this; cases this
      have hGk : (C.G D t).get (H₀.next + k) = none := by
        unfold G
        rw [C.addN_out _ _ _ (fun i hi hf e => by
          have : i = k := by omega
          subst this; simp [hD] at hf)]
        exact I.q k hNk hAk
      have hG : ∀ c, (C.G (ext1 D k) t).get c = if c = H₀.next + k then some (C.b k) else (C.G D t).get c := by
        intro c
        by_cases hck : c = H₀.next + k
        · subst hck
          rw [if_pos rfl]
          exact C.addN_in _ _ k hNk (by simp [ext1_self, hAk])
        · rw [if_neg hck]
          by_cases hci : ∃ i, C.N i ∧ D i = true ∧ bitN (C.S t).A i = false ∧ H₀.next + i = c
          · obtain ⟨i, h1, h2, h3, rfl⟩ := hci
            unfold G
            rw [C.addN_in _ _ i h1 (by simp [ext1_of h2, h3]), C.addN_in _ _ i h1 (by simp [h2, h3])]
          · unfold G
            rw [C.addN_out _ _ c (fun i hi hf e => hci ⟨i, hi, by
                have hne : i ≠ k := fun e' => hck (by rw [← e, e'])
                simp [ext1_ne hne] at hf; exact hf.1, by simp at hf; exact hf.2, e⟩),
              C.addN_out _ _ c (fun i hi hf e => hci ⟨i, hi, by simp at hf; exact hf.1, by simp at hf; exact hf.2, e⟩)]
      have hGn : (C.G (ext1 D k) t).next = (C.G D t).next := by rw [C.G_next, C.G_next]
      have hlt : H₀.next + k < (C.G D t).next := by rw [C.G_next]; have := I.nx; omega
      have hle : Le ι (add ι (H₀.next + k) (w.heap.size, x)) := by
        intro b q hb
        simp only [add]; rw [if_neg (fun e => by rw [e, hfree] at hb; cases hb)]; exact hb
      refine hK t (putT ρ (C.L k).dst (C.v k)) (add ι (H₀.next + k) (w.heap.size, x)) _ _ ⟨I.dlt1 hk, I.closed1 hr, I.tN, ?_, I.rho1 hk hD, ?_, ?_, I.nx, I.q, fun i hi h => ext1_of (I.qd i hi h), ?_, ?_⟩
      · intro j hj
        have : j ≠ k := fun e => by have := hj.2.1; rw [e] at this; omega
        rw [ext1_ne this]; exact I.wrs j hj
      · rw [c1, e1]; exact (I.ac.mono hle).put c5 (e6 _)
      · exact I.heap.newAt hfree hGk hlt e5 x ob e4 hG hGn
      · intro i hi hd
        have hne : i ≠ k := fun e => by rw [e, ext1_self] at hd; cases hd
        rw [ext1_ne hne] at hd
        simp only [add]; rw [if_neg (by omega)]
        exact I.free i hi hd
      · exact I.ext.newAt hfree (by omega) x ob hG hGn
    · obtain ⟨hgd, hv, _, hA, _, _⟩ := hst.wr hc hsk
      have hWk : C.W k := ⟨hk, hc, hsk⟩
      obtain ⟨hts, hAm⟩ := I.A_le hWk hD hr
      obtain ⟨s1, s2, _⟩ := C.stage_eq (s := t) (t := k) I.tN (by omega) (fun j hj => (hts j hj).symm)
      rw [C.bef k hk] at hv hA
      have hsm : addB (C.m k) (C.S k).A (C.S k).pend (C.S k).H = C.small k t := by
        unfold small
        rw [C.addB_pend _ _ _ k (fun i hi => C.mlt k hk i hi) ops.size (by omega) (Nat.le_refl _), s1, s2]
      rw [hsm, ← I.opA_eq hk hD hr] at hv
      have hnb : (C.L k).op ≠ .bad := by intro e; rw [e] at hv; cases hv
      rcases c4 with c4 | ⟨c4, c5, _, _⟩
      · exact absurd c4 hnb
      simp only [hgo none hgd (.inr trivial) hnb, if_true]
      rw [c4] at hv
      have hsn : (C.small k t).next = (C.G D t).next := by rw [C.small_next, C.G_next]
      refine .inl (step_ok hS hL (I.heap.sub (I.sub hr) hsn) I.ac.ev hv ?_)
      intro ι' c w' k1 k2 k3
      have hsn2 : (C.small k t).next = (C.S t).H.next := C.small_next k t
      have hGn : (C.G (ext1 D k) (k + 1)).next = (C.S (k + 1)).H.next := C.G_next _ _
      have hnotin : ∀ i, C.N i → bitN (C.m k) i = false → bitN (C.S t).A i = false ∧ (C.small k t).get (H₀.next + i) = none := by
        intro i hi hb
        have h1 : bitN (C.S t).A i = false := by
          cases h : bitN (C.S t).A i with
          | false => rfl
          | true => have := hAm i h; rw [hb] at this; cases this
        refine ⟨h1, ?_⟩
        unfold small
        rw [addB_eq, C.addN_out _ _ _ (fun j hj hf e => by
          have : j = i := by omega
          subst this; simp [hb] at hf)]
        exact I.q i hi h1
      obtain ⟨f1, f2⟩ := frame I.heap (I.sub hr) hsn k2 k3 (G' := C.G (ext1 D k) (k + 1)) (by
          intro b q e1 e2
          by_cases hci : ∃ i, C.N i ∧ D i = true ∧ bitN (C.S t).A i = false ∧ H₀.next + i = b
          · obtain ⟨i, h1, h2, h3, rfl⟩ := hci
            unfold G at e2
            rw [C.addN_in _ _ i h1 (by simp [h2, h3])] at e2
            have hb : bitN (C.m k) i = false := by
              cases h : bitN (C.m k) i with
              | false => rfl
              | true =>
                unfold small at e1
                rw [addB_eq, C.addN_in _ _ i h1 (by simp [h, h3])] at e1; cases e1
            unfold G
            rw [C.addN_in _ _ i h1 (by simp [ext1_of h2, hA, hb])]; exact e2
          · exfalso
            unfold G at e2
            rw [C.addN_out _ _ b (fun i hi hf e => hci ⟨i, hi, by simp at hf; exact hf.1, by simp at hf; exact hf.2, e⟩)] at e2
            unfold small at e1
            rw [addB_eq, C.addN_out _ _ b (fun i hi hf e => hci ⟨i, hi, by simp at hf; exact hr i hf.1, by simp at hf; exact hf.2, e⟩), e2] at e1
            cases e1) (by
          intro b hb
          unfold G
          refine C.addN_out _ _ b fun i hi hf e => ?_
          subst e
          simp [hA] at hf
          have hik : i ≠ k := fun e => by have := hi.2.1; rw [e] at this; omega
          rw [ext1_ne hik] at hf
          obtain ⟨h1, h2⟩ := hnotin i hi hf.2
          rcases hb with hb | hb
          · exact hb h2
          · unfold G at hb
            rw [C.addN_in _ _ i hi (by simp [hf.1, h1])] at hb; cases hb) hGn
      refine hK (k + 1) (putT ρ (C.L k).dst (C.v k)) ι' _ w' ⟨I.dlt1 hk, I.closed1 hr, by omega, ?_, I.rho1 hk hD, ?_, f1, ?_, ?_, ?_, ?_, I.ext.trans f2⟩
      · intro j hj
        by_cases e : j = k
        · subst e; simp [ext1_self]
        · rw [ext1_ne e, I.wrs j hj, hts j hj]; omega
      · rw [c1]; exact (I.ac.mono k3.le).put c5 k1
      · have h1 := k3.next; rw [hsn2] at h1; have := I.nx; omega
      · intro i hi hb
        rw [hA] at hb
        obtain ⟨h1, h2⟩ := hnotin i hi hb
        cases h : (C.S (k + 1)).H.get (H₀.next + i) with
        | none => rfl
        | some q =>
          rcases k3.news _ q h with ⟨q', h3⟩ | h3
          · rw [h2] at h3; cases h3
          · rw [hsn2] at h3; have := I.nx; have := hi.1; omega
      · intro i hi hb
        rw [hA] at hb
        exact ext1_of (hr i hb)
      · intro i hi hd
        have hne : i ≠ k := fun e => by rw [e, ext1_self] at hd; cases hd
        rw [ext1_ne hne] at hd
        have h0 := I.free i hi hd
        cases h1 : ι' (H₀.next + i) with
        | none => rfl
        | some p =>
          rcases k3.only _ p h1 with h2 | h2
          · rw [h0] at h2; cases h2
          · rw [hsn2] at h2; have := I.nx; have := hi.1; omega
end
end Can
end Go.Rem
/-! Regions whose order is open: the whole. -/
namespace Go.Rem
namespace Can
variable {call : CallT} {lay : Lay} {nt : Nat} {ops : Array Oper} {H₀ : AH} {ρ₀ : Tr Value} {C : Can call lay nt ops H₀ ρ₀}

theorem binds_any (e : Edge) : Region.binds .any e = bindsG e.ground := by
  unfold Region.binds bindsG
  cases e.ground <;> rfl

theorem Inv.start {P : Program} {ι : Ren} {a : Act} {w : World} (hA : AcR ι nt ρ₀ a) (hH : HRel P ι H₀ w) : C.Inv P ι w (fun _ => false) 0 ρ₀ ι a { w with drawn := w.drawn + 1 } := by
  have hS := C.S0
  have hn : (C.S 0).H.next = H₀.next + ops.size := by rw [hS]
  have hg0 : ∀ c, (C.S 0).H.get c = H₀.get c := fun c => by rw [hS]; rfl
  have hA0 : (C.S 0).A = 0 := by rw [hS]
  have hg : ∀ c, (C.G (fun _ => false) 0).get c = H₀.get c := by
    intro c
    unfold G
    rw [C.addN_out _ _ c (fun i _ hf => by simp at hf), hg0]
  have hGn : (C.G (fun _ => false) 0).next = H₀.next + ops.size := by rw [C.G_next, hn]
  refine ⟨fun i h => (by cases h), fun i h => (by cases h), Nat.zero_le _, fun j _ => by simp, ?_, hA, ?_, by rw [hn]; exact Nat.le_refl _, ?_, ?_, ?_, ?_⟩
  · intro p; cases C.own.at p <;> simp
  · refine HRel.drew ⟨?_, ?_, ?_, ?_⟩ _
    · intro b k e d; rw [hg] at e; exact hH.blocks b k e d
    · intro b b' k k' B x x' e d e' d' i i'; rw [hg] at e e'; exact hH.inj b b' k k' B x x' e d e' d' i i'
    · intro b p e; rw [hGn]; have := hH.dom b p e; omega
    · intro b k e; rw [hg] at e; rw [hGn]; have := hH.fresh b k e; omega
  · intro i _ _
    rw [hg0]
    cases h : H₀.get (H₀.next + i) with
    | none => rfl
    | some k => have := hH.fresh _ k h; omega
  · intro i _ h; rw [hA0, bitN_zero] at h; cases h
  · intro i _ _
    cases h : ι (H₀.next + i) with
    | none => rfl
    | some p => have := hH.dom _ p h; omega
  · refine ⟨Le.refl ι, Nat.le_refl _, by rw [hGn]; omega, fun _ _ _ => rfl, ?_, ?_, rfl, rfl, rfl, fun _ _ h => .inl h⟩
    · rintro B ⟨b, k, x, e, d, i⟩
      rw [hg] at e
      exact .inl ⟨b, k, x, e, d, i⟩
    · intro b k e; rw [hg] at e; exact .inl ⟨k, e⟩

theorem countP_lt {p q : Nat → Bool} : ∀ (l : List Nat), (∀ x, x ∈ l → q x = true → p x = true) → (∃ x, x ∈ l ∧ p x = true ∧ q x = false) → l.countP q < l.countP p := by
  intro l
  induction l with
  | nil => intro _ ⟨x, h, _⟩; cases h
  | cons y l ih =>
    intro h1 ⟨x, hx, hp, hq⟩
    have hle : l.countP q ≤ l.countP p := by
      apply List.countP_mono_left
      intro z hz hq; exact h1 z (by simp [hz]) hq
    rw [List.countP_cons, List.countP_cons]
    cases hx with
    | head =>
      rw [hp, hq]; simp; omega
    | tail _ hx =>
      have := ih (fun z hz => h1 z (by simp [hz])) ⟨x, hx, hp, hq⟩
      have h2 := h1 y (by simp)
      cases hqy : q y with
      | false => cases p y <;> simp <;> omega
      | true => rw [h2 hqy]; simp; exact this

theorem any_ok {P : Program} (hS : SoundC P call) (hL : LayOK P lay) {ι₀ : Ren} {w₀ : World} {Q : Exit → Act → World → Prop}
    (hQ : ∀ D t ρ ι a w, C.Inv P ι₀ w₀ D t ρ ι a w → (∀ i, i < ops.size → D i = true) → Q .normal a w) :
    ∀ (fuel : Nat) (listed : Array Bool) (t : Nat) (ρ : Tr Value) (ι : Ren) (a : Act) (w : World), C.Inv P ι₀ w₀ (fun i => listed.getD i false) t ρ ι a w → listed.size = ops.size →
      (List.range ops.size).countP (fun i => !listed.getD i false) ≤ fuel → wpAny P .any ops Q fuel listed a w := by
  have hgd : ∀ (listed : Array Bool) (i : Nat), listed.size = ops.size → i < ops.size → listed.getD i true = listed.getD i false := by
    intro listed i h1 h2
    simp [Array.getD, h1, h2]
  -- nothing is ready: all is done
  have hdone : ∀ (listed : Array Bool), listed.size = ops.size → Region.ready .any ops listed = [] → ∀ i, i < ops.size → listed.getD i false = true := by
    intro listed hsz hr i
    induction i using Nat.strongRecOn with
    | _ i ih =>
      intro hi
      cases h : listed.getD i false with
      | true => rfl
      | false =>
        exfalso
        have : i ∈ Region.ready .any ops listed := by
          rw [mem_ready]
          refine ⟨by rw [hgd listed i hsz hi]; exact h, ops[i], Array.getElem?_eq_getElem hi, ?_⟩
          intro e he hb
          rw [binds_any] at hb
          have hlt := C.mlt i hi e.on (C.m1 i ops[i] (Array.getElem?_eq_getElem hi) e (by simpa using he) hb)
          exact ih e.on hlt (by omega)
        rw [hr] at this; cases this
  intro fuel
  induction fuel with
  | zero =>
    intro listed t ρ ι a w I hsz hc
    have hall : ∀ i, i < ops.size → listed.getD i false = true := by
      intro i hi
      have h0 : (List.range ops.size).countP (fun i => !listed.getD i false) = 0 := by omega
      rw [List.countP_eq_zero] at h0
      have := h0 i (by simp [hi])
      simpa using this
    refine ⟨?_, hQ _ _ _ _ _ _ I hall⟩
    apply List.eq_nil_iff_forall_not_mem.2
    intro i hi
    rw [mem_ready] at hi
    obtain ⟨h1, o, h2, _⟩ := hi
    have hi' : i < ops.size := (Array.getElem?_eq_some_iff.1 h2).1
    rw [hgd listed i hsz hi', hall i hi'] at h1; cases h1
  | succ fuel ih =>
    intro listed t ρ ι a w I hsz hc
    refine ⟨fun hr => hQ _ _ _ _ _ _ I (hdone listed hsz hr), ?_⟩
    intro k hk
    rw [mem_ready] at hk
    obtain ⟨h1, o, h2, h3⟩ := hk
    have hk' : k < ops.size := (Array.getElem?_eq_some_iff.1 h2).1
    rw [hgd listed k hsz hk'] at h1
    have hr : ∀ j, bitN (C.m k) j = true → listed.getD j false = true := by
      intro j hj
      obtain ⟨e, e1, e2, e3⟩ := C.m3 k o h2 j hj
      have hon := h3 e (by simpa using e1) (by rw [binds_any]; exact e2)
      rcases e3 with e3 | e3
      · rw [e3]; exact hon
      · exact I.closed e.on hon j e3
    refine I.step (hS := hS) (hL := hL) hk' h1 hr ?_
    intro t' ρ' ι' a' w' I'
    have hD : ext1 (fun i => listed.getD i false) k = fun i => (listed.setIfInBounds k true).getD i false := by
      funext i
      by_cases e : i = k
      · subst e; simp [ext1, Array.getD, hsz, hk']
      · rw [ext1_ne e]
        simp [Array.getD_eq_getD_getElem?, Array.getElem?_setIfInBounds_ne (Ne.symm e)]
    rw [hD] at I'
    refine ih _ t' ρ' ι' a' w' I' (by simpa using hsz) ?_
    have hlt := countP_lt (p := fun i => !listed.getD i false) (q := fun i => !(listed.setIfInBounds k true).getD i false) (List.range ops.size) (by
        intro x _ hx
        have := congrFun hD x
        rw [← this] at hx
        simp only [ext1, Bool.not_or, Bool.and_eq_true] at hx
        exact hx.1) ⟨k, by simp [hk'], by simp [h1], by
        have := congrFun hD k
        rw [← this, ext1_self]; rfl⟩
    omega
end Can

theorem draw_ok {P : Program} (hm : P.follows .mixedOrders = true) {call : CallT} (hS : SoundC P call) {lay : Lay} (hL : LayOK P lay) : DrawS P call lay := by
  intro nt id ops ρ H r ι a w hd h hA hH
  obtain ⟨C, hr⟩ := can_of hd h
  refine wp_region_any hm ?_
  have hinit : (fun i => (Array.replicate ops.size false).getD i false) = fun _ => false := by
    funext i
    by_cases h : i < ops.size <;> simp [Array.getD, h]
  refine Can.any_ok (C := C) hS hL (ι₀ := ι) (w₀ := w) ?_ ops.size _ 0 ρ ι a _ (by rw [hinit]; exact Can.Inv.start hA hH) (by simp) ?_
  · intro D t ρ' ι' a' w' I hall
    obtain ⟨f1, f2, _⟩ := C.stage_eq (s := t) (t := ops.size) I.tN (Nat.le_refl _) (fun j hj => by
      rw [← I.wrs j hj]
      exact ⟨fun _ => hall j hj.1, fun _ => hj.1⟩)
    have hg : ∀ c, r.2.get c = (C.G D t).get c := by
      intro c
      rw [hr]
      show (addR (C.S ops.size).A (C.S ops.size).pend (C.S ops.size).H).get c = _
      rw [addR_eq]
      unfold Can.G
      rw [f1, f2]
      congr 1
      refine Can.addQ_congr fun e he => ?_
      obtain ⟨i, hi, _, rfl⟩ := (C.pend_mem _ (Nat.le_refl _) e).1 he
      simp [hall i hi]
    have hgn : r.2.next = (C.G D t).next := by
      rw [hr, C.G_next, ← f1]
      show (addR (C.S ops.size).A (C.S ops.size).pend (C.S ops.size).H).next = _
      rw [addR_eq, addQ_next]
    have hρ : ∀ p, r.1.at p = ρ'.at p := by
      intro p
      rw [hr, I.rho p]
      show (C.S ops.size).ρ.at p = _
      rw [C.rho_at ops.size (Nat.le_refl _) p]
      cases ho : C.own.at p with
      | none => rfl
      | some j =>
        have := (C.own2 p j ho).1
        simp only [this, hall j this, if_true]
    refine ⟨ι', rfl, ⟨fun x v e => I.ac.val x v ?_, I.ac.size, I.ac.defers⟩, I.heap.same hg hgn, I.ext.same hg hgn⟩
    unfold Tr.get at e ⊢
    rw [← hρ]; exact e
  · have : (List.range ops.size).countP (fun i => !(Array.replicate ops.size false).getD i false) ≤ (List.range ops.size).length := List.countP_le_length
    simpa using this
end Go.Rem
