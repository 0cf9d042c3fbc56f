/- Memo. Texts joined by program (asm.py): RemMemo RemPure RemTab RemTyB RemMemo2 RemClosed. -/
import Derived.Test.YtngnkeejmlhdaaaGreatDraws
import Derived.Test.YtngnkeejmlhdaaaGreatTypes
import Derived.Test.YtngnkeejmlhdaaaGreatTold
set_option linter.all false
/-! A call's answer, kept: so a long run is cut into pieces. -/
namespace Go.Rem
noncomputable section

def sameB (a b : ABlk) : Bool :=
  match a with
  | .cells x e o => match b with
    | .cells y e' o' => cnd (sameL sameS x y) (cnd (Nat.beq e e') (o == o') false) false
    | _ => false
  | .map x => match b with
    | .map y => cnd (sameL sameA (x.map Prod.fst) (y.map Prod.fst)) (sameL sameA (x.map Prod.snd) (y.map Prod.snd)) false
    | _ => false
  | .dead => false
/-- a heap, listed -/
def fillT (l : List (Nat × ABlk)) : Tr ABlk → Tr ABlk := List.rec (fun t => t) (fun p _ ih t => (t.set p.1 p.2).seq ih) l
def ofL (l : List (Nat × ABlk)) (n : Nat) : AH := ⟨n, fillT l .nil⟩
def inL (n : Nat) (l : List (Nat × ABlk)) : Bool := allL (fun p => Nat.ble (Nat.succ p.1) n) l
/-- a heap has what is listed -/
def subL (l : List (Nat × ABlk)) (H : AH) : Bool := allL (fun p => match H.get p.1 with | some k => sameB p.2 k | none => false) l
def memoB (call : CallT) (f : Nat) (args : List Value) (li : List (Nat × ABlk)) (ni : Nat) (v : Value) (lo : List (Nat × ABlk)) (no : Nat) : Bool :=
  (ofL li ni).seq fun H => match call f args H with
  | some (v', H') => cnd (sameV v' v) (cnd (Nat.beq no H'.next) (cnd (inL ni li) (cnd (inL no lo) (subL lo H') false) false) false) false
  | none => false
def memoO (args : List Value) (li : List (Nat × ABlk)) (ni : Nat) (v : Value) (lo : List (Nat × ABlk)) (no : Nat) (args' : List Value) (H : AH) : Option (Value × AH) :=
  cnd (sameL sameV args args') (cnd (Nat.beq ni H.next) (cnd (subL li H) ((ofL lo no).seq fun H => some (v, H)) none) none) none
end

theorem sameL_eq' {f : Value → Value → Bool} (hf : ∀ a b, f a b = true → a = b) : ∀ {x y : List Value}, sameL f x y = true → x = y := by
  intro x
  induction x with
  | nil => intro y h; cases y with
    | nil => rfl
    | cons b bs => cases h
  | cons a x ih => intro y h; cases y with
    | nil => cases h
    | cons b bs =>
      change cnd (f a b) (sameL f x bs) false = true at h
      rw [cnd_eq] at h
      split at h
      · next h' => rw [hf a b h', ih h]
      · cases h
theorem sameA_eq' {a b : Value} (h : sameA a b = true) : a = b := by
  apply sameV_eq
  cases a <;> first | exact h | cases h
theorem cndT {c x : Bool} (h : cnd c x false = true) : c = true ∧ x = true := by
  cases c
  · cases h
  · exact ⟨rfl, h⟩
theorem zip_eq {α β : Type} : ∀ {x y : List (α × β)}, x.map Prod.fst = y.map Prod.fst → x.map Prod.snd = y.map Prod.snd → x = y := by
  intro x
  induction x with
  | nil => intro y h _; cases y with
    | nil => rfl
    | cons b bs => cases h
  | cons a x ih => intro y h h'; cases y with
    | nil => cases h
    | cons b bs =>
      simp only [List.map_cons, List.cons.injEq] at h h'
      rw [ih h.2 h'.2, Prod.ext h.1 h'.1]
theorem sameB_eq {a b : ABlk} (h : sameB a b = true) : a = b ∧ a ≠ .dead := by
  cases a with
  | cells x e o => cases b with
    | cells y e' o' =>
      obtain ⟨h1, h2⟩ := cndT (show cnd (sameL sameS x y) (cnd (Nat.beq e e') (o == o') false) false = true from h)
      obtain ⟨h2, h3⟩ := cndT h2
      have h1 := sameL_eq' (fun _ _ => sameS_eq) h1
      have h2 : e = e' := by simpa using h2
      have h3 : o = o' := by simpa using h3
      exact ⟨by rw [h1, h2, h3], by simp⟩
    | map y => cases h
    | dead => cases h
  | map x => cases b with
    | map y =>
      obtain ⟨h1, h2⟩ := cndT (show cnd (sameL sameA (x.map Prod.fst) (y.map Prod.fst)) (sameL sameA (x.map Prod.snd) (y.map Prod.snd)) false = true from h)
      exact ⟨by rw [zip_eq (sameL_eq' (fun _ _ => sameA_eq') h1) (sameL_eq' (fun _ _ => sameA_eq') h2)], by simp⟩
    | cells y e o => cases h
    | dead => cases h
  | dead => cases h

theorem fillT_get : ∀ (l : List (Nat × ABlk)) (t : Tr ABlk) (b : Nat) (k : ABlk), (fillT l t).get b = some k → (b, k) ∈ l ∨ t.get b = some k := by
  intro l
  induction l with
  | nil => intro t b k h; exact .inr h
  | cons p l ih =>
    intro t b k h
    have h' : (fillT l (t.set p.1 p.2)).get b = some k := by
      have : fillT (p :: l) t = fillT l (t.set p.1 p.2) := by
        show (t.set p.1 p.2).seq (fillT l) = _
        rw [Tr.seq_eq]
      rwa [this] at h
    rcases ih _ _ _ h' with h | h
    · exact .inl (by simp [h])
    · rw [Tr.get_set_eq] at h
      split at h
      · next e => injection h with h; left; rw [e, ← h]; simp
      · exact .inr h
theorem ofL_get {l : List (Nat × ABlk)} {n b : Nat} {k : ABlk} (h : (ofL l n).get b = some k) : (b, k) ∈ l := by
  rcases fillT_get l .nil b k h with h | h
  · exact h
  · rw [Tr.get_nil] at h; cases h
theorem inL_lt {n : Nat} {l : List (Nat × ABlk)} (h : inL n l = true) {b k} (hm : (b, k) ∈ l) : b < n := by
  rw [inL, allL_eq] at h
  have := List.all_eq_true.1 h _ hm
  have h2 : b + 1 ≤ n := by simpa using this
  omega
theorem subL_mem {l : List (Nat × ABlk)} {H : AH} (h : subL l H = true) {b k} (hm : (b, k) ∈ l) : H.get b = some k ∧ k ≠ .dead := by
  rw [subL, allL_eq] at h
  have h := List.all_eq_true.1 h _ hm
  simp only at h
  cases hg : H.get b with
  | none => rw [hg] at h; cases h
  | some k' =>
    rw [hg] at h
    obtain ⟨h1, h2⟩ := sameB_eq h
    exact ⟨by rw [h1], h2⟩

/-- blocks are forgotten -/
theorem HRel.forget {P : Program} {ι : Ren} {H G : AH} {w : World} (h : HRel P ι H w) (hs : ∀ b k, G.get b = some k → H.get b = some k) (hn : G.next = H.next) : HRel P ι G w :=
  ⟨fun b k e d => h.blocks b k (hs b k e) d, fun b b' k k' B x x' e1 d1 e2 d2 i1 i2 => h.inj b b' k k' B x x' (hs _ _ e1) d1 (hs _ _ e2) d2 i1 i2,
    fun b p e => hn ▸ h.dom b p e, fun b k e => hn ▸ h.fresh b k (hs b k e)⟩

theorem memo_ok {P : Program} {call : CallT} (hS : SoundC P call) {f : Nat} {args : List Value} {li : List (Nat × ABlk)} {ni : Nat} {v : Value} {lo : List (Nat × ABlk)} {no : Nat}
    (hm : memoB call f args li ni v lo no = true) {args' : List Value} {H : AH} {u : Value} {G : AH} (h : memoO args li ni v lo no args' H = some (u, G)) :
    Enterable P f ∧ ∀ ι w (cargs : Array Value), HRel P ι H w → All2 (TR ι) args' cargs.toList → Calls P f cargs w (CallR P ι H w u G) := by
  unfold memoB at hm
  rw [AH.seq_eq] at hm
  split at hm
  · next v' H' hc =>
    obtain ⟨m1, hm⟩ := cndT hm
    obtain ⟨m2, hm⟩ := cndT hm
    obtain ⟨m3, hm⟩ := cndT hm
    obtain ⟨m4, m5⟩ := cndT hm
    have m1 := sameV_eq m1
    have m2 : no = H'.next := by simpa using m2
    subst m1
    unfold memoO at h
    obtain ⟨h1, h⟩ := cnd_some h
    obtain ⟨h2, h⟩ := cnd_some h
    obtain ⟨h3, h⟩ := cnd_some h
    rw [AH.seq_eq] at h
    injection h with h; injection h with h4 h5; subst h4; subst h5
    have h1 := sameL_eq' (fun _ _ => sameV_eq) h1
    have h2 : ni = H.next := by simpa using h2
    subst h1
    obtain ⟨k1, k2⟩ := hS _ _ _ _ _ hc
    refine ⟨k1, fun ι w cargs hH ha => ?_⟩
    have hsubI : ∀ b k, (ofL li ni).get b = some k → H.get b = some k := fun b k e => (subL_mem h3 (ofL_get e)).1
    have hI : HRel P ι (ofL li ni) w := hH.forget hsubI h2
    refine (k2 ι w cargs hI ha).mono ?_
    rintro e w' ⟨ι', c, rfl, c1, c2, c3⟩
    have hsubO : ∀ b k, (ofL lo no).get b = some k → H'.get b = some k := fun b k e => (subL_mem m5 (ofL_get e)).1
    refine ⟨ι', c, rfl, c1, c2.forget hsubO m2, ?_⟩
    have hlive : ∀ B, Live (ofL li ni) ι B → Live H ι B := by
      rintro B ⟨b, k, x, e, d, i⟩
      exact ⟨b, k, x, hsubI b k e, d, i⟩
    refine ⟨c3.le, c3.size, ?_, fun B hB hl => c3.junk B hB fun l => hl (hlive B l), ?_, ?_, c3.tape, c3.os, c3.output, ?_⟩
    · have := c3.next; show H.next ≤ no; rw [m2, ← h2]; exact this
    · rintro B ⟨b, k, x, e, d, i⟩
      rcases c3.range B ⟨b, k, x, hsubO b k e, d, i⟩ with l | l
      · exact .inl (hlive B l)
      · exact .inr l
    · intro b k e
      rcases c3.news b k (hsubO b k e) with ⟨k', e'⟩ | l
      · exact .inl ⟨k', hsubI b k' e'⟩
      · right; rw [← h2]; exact l
    · intro b p e
      rcases c3.only b p e with l | l
      · exact .inl l
      · right; rw [← h2]; exact l
  · cases hm
end Go.Rem
/-! A call that needs no memory, and makes none that lives on. -/
namespace Go.Rem
theorem BR.ground_inv {ι : Ren} {v c : Value} (h : BR ι v c) (hv : isBase v = true) : c = v := by
  cases h <;> first | rfl | (cases hv; done)
theorem TR.ground_inv {ι : Ren} {v c : Value} (h : TR ι v c) (hv : isGround v = true) : c = v := by
  have hall : ∀ {l l' : List Value}, All2 (SR ι) l l' → (∀ a ∈ l, isBase a = true) → l' = l := by
    intro l l' h
    induction h with
    | nil => intro _; rfl
    | @cons a b l l' r _ ih =>
      intro hb
      have h1 := hb a (by simp)
      have : b = a := by
        cases r with
        | base r => exact r.ground_inv h1
        | fn _ _ => cases h1
      rw [this, ih fun x hx => hb x (by simp [hx])]
  cases h with
  | ar h => cases h with
    | sc h => cases h with
      | base h =>
        cases h <;> first | rfl | (cases hv; done)
      | fn _ _ => cases hv
    | agg h =>
      have hv' : allL isBase _ = true := hv
      rw [allL_eq] at hv'
      have := hall h fun a ha => by simpa using List.all_eq_true.1 hv' a ha
      congr 1
      exact Array.ext' this
  | @tup vs vs' h =>
    have hv' : vs.toList.isEmpty = true := by
      unfold isGround at hv
      simpa using hv
    generalize hl : vs.toList = l at h hv'
    generalize hl' : vs'.toList = l' at h
    cases h with
    | nil => congr 1; apply Array.ext'; rw [hl, hl']
    | cons _ _ => cases hv'

noncomputable def pureB (call : CallT) (f : Nat) (args : List Value) (v : Value) : Bool :=
  match call f args ⟨0, .nil⟩ with
  | some (v', _) => cnd (sameV v' v) (cnd (isGround v) (allL isGround args) false) false
  | none => false
noncomputable def pureO (args : List Value) (v : Value) (args' : List Value) (H : AH) : Option (Value × AH) := cnd (sameL sameV args args') (some (v, H)) none
theorem pure_ok {P : Program} {call : CallT} (hS : SoundC P call) {f : Nat} {args : List Value} {v : Value} (hm : pureB call f args v = true) {args' : List Value} {H : AH} {u : Value} {G : AH} (h : pureO args v args' H = some (u, G)) :
    Enterable P f ∧ ∀ ι w (cargs : Array Value), HRel P ι H w → All2 (TR ι) args' cargs.toList → Calls P f cargs w (CallR P ι H w u G) := by
  unfold pureB at hm
  split at hm
  · next v' H' hc =>
    obtain ⟨m1, hm⟩ := cndT hm
    obtain ⟨m2, m3⟩ := cndT hm
    have m1 := sameV_eq m1
    subst m1
    unfold pureO at h
    obtain ⟨h1, h⟩ := cnd_some h
    injection h with h; injection h with h4 h5; subst h4; subst h5
    have h1 := sameL_eq' (fun _ _ => sameV_eq) h1
    subst h1
    obtain ⟨k1, k2⟩ := hS _ _ _ _ _ hc
    refine ⟨k1, fun ι w cargs hH ha => ?_⟩
    have hargs : cargs.toList = args := by
      rw [allL_eq] at m3
      have : ∀ {l l' : List Value}, All2 (TR ι) l l' → (∀ a ∈ l, isGround a = true) → l' = l := by
        intro l l' h
        induction h with
        | nil => intro _; rfl
        | @cons a b l l' r _ ih => intro hb; rw [r.ground_inv (hb a (by simp)), ih fun x hx => hb x (by simp [hx])]
      exact this ha fun a ha => by simpa using List.all_eq_true.1 m3 a ha
    have hnil : ∀ b k, (⟨0, .nil⟩ : AH).get b = some k → False := by
      intro b k e
      have : (Tr.nil : Tr ABlk).get b = some k := e
      rw [Tr.get_nil] at this; cases this
    have hI : HRel P (fun _ => none) ⟨0, .nil⟩ w := ⟨fun b k e _ => (hnil b k e).elim, fun b b' k k' B x x' e _ _ _ _ _ => (hnil b k e).elim, fun b p e => (by cases e), fun b k e => (hnil b k e).elim⟩
    have hA : All2 (TR fun _ => none) args cargs.toList := by
      rw [hargs]
      rw [allL_eq] at m3
      exact All2.refl_of fun a ha => TR.of_isGround _ (by simpa using List.all_eq_true.1 m3 a ha)
    refine (k2 _ w cargs hI hA).mono ?_
    rintro e w' ⟨ι', c, rfl, c1, c2, c3⟩
    have hlater : ∀ B, B < w.heap.size → w'.heap[B]? = w.heap[B]? := fun B hB => c3.junk B hB (by rintro ⟨b, k, x, e, _, _⟩; exact hnil b k e)
    rw [c1.ground_inv m2]
    exact ⟨ι, _, rfl, TR.of_isGround ι m2, hH.later hlater, Ext.later c3.size hlater c3.tape c3.os c3.output⟩
  · cases hm
end Go.Rem
namespace Go.Rem
/-- functions as the program has them -/
def Facts (P : Program) (l : List (Nat × Func)) : Prop := ∀ p ∈ l, P.funcs[p.1]? = some p.2 ∧ p.2.name ≠ "runtime.NumGoroutine"
theorem Facts.nil {P : Program} : Facts P [] := by intro p h; cases h
theorem Facts.cons {P : Program} {n : Nat} {F : Func} {l : List (Nat × Func)} (h : P.funcs[n]? = some F) (hn : F.name ≠ "runtime.NumGoroutine") (hl : Facts P l) : Facts P ((n, F) :: l) := by
  intro p hp
  rcases List.mem_cons.1 hp with rfl | hp
  · exact ⟨h, hn⟩
  · exact hl p hp
theorem FnsOK.nil {P : Program} {lay : Lay} : FnsOK P lay .nil := by
  intro f F e; rw [Tr.get_nil] at e; cases e
theorem table_ok {P : Program} {lay : Lay} : ∀ (l : List (Nat × Func)) (t : Tr AF), FnsOK P lay t → Facts P l → ∃ t', FnsOK P lay t' ∧ ∀ {β : Type} (k : Tr AF → β), table lay l t k = k t' := by
  intro l
  induction l with
  | nil => intro t h _; exact ⟨t, h, fun k => rfl⟩
  | cons p l ih =>
    intro t h hl
    have hl' : Facts P l := fun q hq => hl q (List.mem_cons_of_mem _ hq)
    obtain ⟨h1, h2⟩ := hl p (List.mem_cons_self ..)
    cases hp : pFunc lay p.2 with
    | none =>
      obtain ⟨t', a, b⟩ := ih t h hl'
      refine ⟨t', a, fun k => ?_⟩
      have : table lay (p :: l) t k = @Option.rec _ (fun _ => _) (table lay l t k) (fun F => fFunc F fun F => (t.set p.1 F).seq fun t => table lay l t k) (pFunc lay p.2) := rfl
      rw [this, hp]
      exact b k
    | some F =>
      obtain ⟨t', a, b⟩ := ih (t.set p.1 F) (by
        intro f G e
        rw [Tr.get_set_eq] at e
        split at e
        · next e' => injection e with e; subst e; subst e'; exact ⟨_, h1, hp, h2⟩
        · exact h f G e) hl'
      refine ⟨t', a, fun {β} k => ?_⟩
      have : table lay (p :: l) t k = @Option.rec _ (fun _ => β) (table lay l t k) (fun F => fFunc F fun F => (t.set p.1 F).seq fun t => table lay l t k) (pFunc lay p.2) := rfl
      rw [this, hp]
      show fFunc F (fun F => (t.set p.1 F).seq fun t => table lay l t k) = _
      rw [fFunc_eq, Tr.seq_eq]
      exact b k

/-- functions left out -/
noncomputable def lessL (ns : List Nat) (l : List (Nat × Func)) : List (Nat × Func) :=
  List.rec [] (fun p _ ih => cnd (List.rec false (fun n _ r => cnd (Nat.beq n p.1) true r) ns) ih (p :: ih)) l
theorem Facts.less {P : Program} {l : List (Nat × Func)} (h : Facts P l) (ns : List Nat) : Facts P (lessL ns l) := by
  have : ∀ l : List (Nat × Func), ∀ p ∈ lessL ns l, p ∈ l := by
    intro l
    induction l with
    | nil => intro p hp; exact hp
    | cons q l ih =>
      intro p hp
      have e : lessL ns (q :: l) = cnd (List.rec false (fun n _ r => cnd (Nat.beq n q.1) true r) ns) (lessL ns l) (q :: lessL ns l) := rfl
      rw [e, cnd_eq] at hp
      split at hp
      · exact List.mem_cons_of_mem _ (ih p hp)
      · rcases List.mem_cons.1 hp with rfl | hp
        · exact List.mem_cons_self ..
        · exact List.mem_cons_of_mem _ (ih p hp)
  exact fun p hp => h p (this l p hp)

/-- oracles, one behind the other -/
noncomputable def orC (o : CallT) (f : Nat) (g : List Value → AH → Option (Value × AH)) : CallT := fun f' args H => cnd (Nat.beq f' f) (Option.rec (o f' args H) (fun r => some r) (g args H)) (o f' args H)
theorem SoundC.orr {P : Program} {o : CallT} (ho : SoundC P o) {f : Nat} {g : List Value → AH → Option (Value × AH)}
    (hg : ∀ {args H v H'}, g args H = some (v, H') → Enterable P f ∧ ∀ ι w (cargs : Array Value), HRel P ι H w → All2 (TR ι) args cargs.toList → Calls P f cargs w (CallR P ι H w v H')) : SoundC P (orC o f g) := by
  intro f' args H v H' h
  unfold orC at h
  rw [cnd_eq] at h
  split at h
  · next hb =>
    have hb : f' = f := by simpa using hb
    subst hb
    cases hq : g args H with
    | none => rw [hq] at h; exact ho _ _ _ _ _ h
    | some r => rw [hq] at h; injection h with h; subst h; exact hg hq
  · exact ho _ _ _ _ _ h
theorem SoundC.orO {P : Program} {o : CallT} (ho : SoundC P o) {f : Nat} {g : List Value → AH → Option (Value × AH)} (hg : OkO P f g) : SoundC P (orC o f g) :=
  ho.orr fun h => ⟨hg.1, fun ι w cargs => hg.2 _ _ _ _ h ι w cargs⟩
theorem SoundC.none {P : Program} : SoundC P (fun _ _ _ => none) := by intro f args H v H' h; cases h
end Go.Rem
/-! Types, listed. -/
namespace Go.Rem
noncomputable def fillG (l : List (Nat × TI)) : Tr TI → Tr TI := List.rec (fun t => t) (fun p _ ih t => (t.set p.1 p.2).seq ih) l
theorem fillG_get : ∀ (l : List (Nat × TI)) (t : Tr TI) (b : Nat) (k : TI), (fillG l t).get b = some k → (b, k) ∈ l ∨ t.get b = some k := by
  intro l
  induction l with
  | nil => intro t b k h; exact .inr h
  | cons p l ih =>
    intro t b k h
    have h' : (fillG l (t.set p.1 p.2)).get b = some k := by
      have : fillG (p :: l) t = fillG l (t.set p.1 p.2) := by
        show (t.set p.1 p.2).seq (fillG l) = _
        rw [Tr.seq_eq]
      rwa [this] at h
    rcases ih _ _ _ h' with h | h
    · exact .inl (by simp [h])
    · rw [Tr.get_set_eq] at h
      split at h
      · next e => injection h with h; left; rw [e, ← h]; simp
      · exact .inr h
noncomputable def tisB (P : Program) (l : List (Nat × TI)) : Bool := allL (fun p => tiB P p.1 p.2) l
def TIs (P : Program) (l : List (Nat × TI)) : Prop := ∀ p ∈ l, TIok P p.1 p.2
theorem tis_ok {P : Program} {l : List (Nat × TI)} (h : tisB P l = true) : TIs P l := by
  intro p hp
  rw [tisB, allL_eq] at h
  exact tiB_ok (by simpa using List.all_eq_true.1 h p hp)
theorem TIs.append {P : Program} {l l' : List (Nat × TI)} (h : TIs P l) (h' : TIs P l') : TIs P (appL l l') := by
  intro p hp
  rw [appL_eq] at hp
  rcases List.mem_append.1 hp with hp | hp
  · exact h p hp
  · exact h' p hp
theorem lay_ok {P : Program} {l : List (Nat × TI)} (h : TIs P l) : LayOK P (fillG l .nil).get := by
  intro t ti e
  rcases fillG_get l .nil t ti e with e | e
  · exact h _ e
  · rw [Tr.get_nil] at e; cases e
end Go.Rem
/-! A call's answer, kept, with a frame: what it isn't handed stays as it is. -/
namespace Go.Rem
noncomputable section
def inDom (n : Nat) (l : List (Nat × ABlk)) : Bool := List.rec false (fun p _ ih => cnd (Nat.beq p.1 n) true ih) l
def isDead (k : ABlk) : Bool := match k with | .dead => true | _ => false
def hasB (H : AH) (p : Nat × ABlk) : Bool := match H.get p.1 with | some k => sameB p.2 k | none => false
def keptL (li lo : List (Nat × ABlk)) (H : AH) : Bool := allL (fun p => cnd (inDom p.1 lo) true (hasB H p)) li
def subD (lo : List (Nat × ABlk)) (H : AH) : Bool := allL (fun p => cnd (isDead p.2) true (hasB H p)) lo
def newsB (ni : Nat) (li lo : List (Nat × ABlk)) : Bool := allL (fun p => cnd (Nat.ble ni p.1) true (inDom p.1 li)) lo
def memoB2 (call : CallT) (f : Nat) (args : List Value) (li : List (Nat × ABlk)) (ni : Nat) (v : Value) (lo : List (Nat × ABlk)) (no : Nat) : Bool :=
  (ofL li ni).seq fun H => match call f args H with
  | some (v', H') => cnd (sameV v' v) (cnd (Nat.beq no H'.next) (cnd (keptL li lo H') (cnd (inL no lo) (cnd (newsB ni li lo) (subD lo H') false) false) false) false) false
  | none => false
def memoO2 (args : List Value) (li : List (Nat × ABlk)) (ni : Nat) (v : Value) (lo : List (Nat × ABlk)) (no : Nat) (args' : List Value) (H : AH) : Option (Value × AH) :=
  cnd (sameL sameV args args') (cnd (Nat.beq ni H.next) (cnd (subL li H) ((fillT lo H.heap).seq fun t => some (v, ⟨no, t⟩)) none) none) none
end

theorem fillT_get2 : ∀ (l : List (Nat × ABlk)) (t : Tr ABlk) (b : Nat) (k : ABlk), (fillT l t).get b = some k → (b, k) ∈ l ∨ (t.get b = some k ∧ ∀ p ∈ l, p.1 ≠ b) := by
  intro l
  induction l with
  | nil => intro t b k h; exact .inr ⟨h, fun p hp => by cases hp⟩
  | cons p l ih =>
    intro t b k h
    have h' : (fillT l (t.set p.1 p.2)).get b = some k := by
      have : fillT (p :: l) t = fillT l (t.set p.1 p.2) := by
        show (t.set p.1 p.2).seq (fillT l) = _
        rw [Tr.seq_eq]
      rwa [this] at h
    rcases ih _ _ _ h' with h | ⟨h, hn⟩
    · exact .inl (by simp [h])
    · rw [Tr.get_set_eq] at h
      split at h
      · next e => injection h with h; left; rw [e, ← h]; simp
      · next e =>
        refine .inr ⟨h, fun q hq => ?_⟩
        rcases List.mem_cons.1 hq with rfl | hq
        · exact fun e' => e e'.symm
        · exact hn q hq
theorem inDom_true {n : Nat} : ∀ {l : List (Nat × ABlk)}, inDom n l = true → ∃ k, (n, k) ∈ l := by
  intro l
  induction l with
  | nil => intro h; cases h
  | cons p l ih =>
    intro h
    change cnd (Nat.beq p.1 n) true (inDom n l) = true at h
    rw [cnd_eq] at h
    split at h
    · next e => have e : p.1 = n := by simpa using e
                exact ⟨p.2, by rw [← e]; simp⟩
    · obtain ⟨k, hk⟩ := ih h
      exact ⟨k, by simp [hk]⟩
theorem hasB_eq {H : AH} {p : Nat × ABlk} (h : hasB H p = true) : H.get p.1 = some p.2 ∧ p.2 ≠ .dead := by
  unfold hasB at h
  cases hg : H.get p.1 with
  | none => rw [hg] at h; cases h
  | some k' =>
    rw [hg] at h
    obtain ⟨h1, h2⟩ := sameB_eq h
    exact ⟨by rw [h1], h2⟩

theorem memo2_ok {P : Program} {call : CallT} (hS : SoundC P call) {f : Nat} {args : List Value} {li : List (Nat × ABlk)} {ni : Nat} {v : Value} {lo : List (Nat × ABlk)} {no : Nat}
    (hm : memoB2 call f args li ni v lo no = true) {args' : List Value} {H : AH} {u : Value} {G : AH} (h : memoO2 args li ni v lo no args' H = some (u, G)) :
    Enterable P f ∧ ∀ ι w (cargs : Array Value), HRel P ι H w → All2 (TR ι) args' cargs.toList → Calls P f cargs w (CallR P ι H w u G) := by
  unfold memoB2 at hm
  rw [AH.seq_eq] at hm
  split at hm
  · next v' H' hc =>
    obtain ⟨m1, hm⟩ := cndT hm
    obtain ⟨m2, hm⟩ := cndT hm
    obtain ⟨m3, hm⟩ := cndT hm
    obtain ⟨m4, hm⟩ := cndT hm
    obtain ⟨m6, m5⟩ := cndT hm
    have m1 := sameV_eq m1
    have m2 : no = H'.next := by simpa using m2
    subst m1
    unfold memoO2 at h
    obtain ⟨h1, h⟩ := cnd_some h
    obtain ⟨h2, h⟩ := cnd_some h
    obtain ⟨h3, h⟩ := cnd_some h
    rw [Tr.seq_eq] at h
    injection h with h; injection h with h4 h5; subst h4
    have h1 := sameL_eq' (fun _ _ => sameV_eq) h1
    have h2 : ni = H.next := by simpa using h2
    subst h1
    obtain ⟨k1, k2⟩ := hS _ _ _ _ _ hc
    refine ⟨k1, fun ι w cargs hH ha => ?_⟩
    have hsubI : ∀ b k, (ofL li ni).get b = some k → H.get b = some k := fun b k e => (subL_mem h3 (ofL_get e)).1
    have hI : HRel P ι (ofL li ni) w := hH.forget hsubI h2
    refine (k2 ι w cargs hI ha).mono ?_
    rintro e w' ⟨ι', c, rfl, c1, c2, c3⟩
    have hlive : ∀ B, Live (ofL li ni) ι B → Live H ι B := by
      rintro B ⟨b, k, x, e, d, i⟩
      exact ⟨b, k, x, hsubI b k e, d, i⟩
    -- what stands in the new heap
    have hG : ∀ b k, G.get b = some k → k ≠ .dead → H'.get b = some k ∨ (H.get b = some k ∧ ∀ q, (ofL li ni).get b ≠ some q) := by
      intro b k e d
      rw [← h5] at e
      rcases fillT_get2 lo H.heap b k e with e | ⟨e, hn⟩
      · left
        rw [subD, allL_eq] at m5
        have := List.all_eq_true.1 m5 _ e
        simp only at this
        rw [cnd_eq] at this
        split at this
        · next hd => cases k with
          | dead => exact absurd rfl d
          | cells _ _ _ => cases hd
          | map _ => cases hd
        · exact (hasB_eq this).1
      · by_cases hq : ∃ q, (ofL li ni).get b = some q
        · left
          obtain ⟨q, hq⟩ := hq
          have hmem := ofL_get hq
          have hqk : H.get b = some q := hsubI b q hq
          have e' : H.get b = some k := e
          rw [hqk] at e'; injection e' with e'; subst e'
          rw [keptL, allL_eq] at m3
          have := List.all_eq_true.1 m3 _ hmem
          simp only at this
          rw [cnd_eq] at this
          split at this
          · next hd =>
            obtain ⟨k', hk'⟩ := inDom_true hd
            exact absurd rfl (hn _ hk')
          · exact (hasB_eq this).1
        · exact .inr ⟨e, fun q hq' => hq ⟨q, hq'⟩⟩
    -- a block of the frame isn't one that the call was handed
    have hfr : ∀ b k B x, H.get b = some k → k ≠ .dead → (∀ q, (ofL li ni).get b ≠ some q) → ι b = some (B, x) → ¬ Live (ofL li ni) ι B := by
      rintro b k B x e d hn i ⟨b', k', x', e', d', i'⟩
      have := hH.inj b b' k k' B x x' e d (hsubI _ _ e') d' i i'
      subst this
      exact hn k' e'
    have hGn : G.next = no := by rw [← h5]
    have hnn : H.next ≤ no := by
      have := c3.next; rw [m2, ← h2]; exact this
    refine ⟨ι', c, rfl, c1, ⟨?_, ?_, ?_, ?_⟩, ⟨c3.le, c3.size, by rw [hGn]; exact hnn, fun B hB hl => c3.junk B hB fun l => hl (hlive B l), ?_, ?_, c3.tape, c3.os, c3.output, ?_⟩⟩
    · intro b k e d
      rcases hG b k e d with e' | ⟨e', hn⟩
      · exact c2.blocks b k e' d
      · obtain ⟨B, x, i, r⟩ := hH.blocks b k e' d
        refine ⟨B, x, c3.le _ _ i, ?_⟩
        rw [c3.junk B (hH.lt e' d i) (hfr b k B x e' d hn i)]
        exact r.mono c3.le
    · intro b b' k k' B x x' e d e' d' i i'
      have hmix : ∀ b b' k k' B x x', H'.get b = some k → k ≠ .dead → (H.get b' = some k' ∧ ∀ q, (ofL li ni).get b' ≠ some q) → k' ≠ .dead → ι' b = some (B, x) → ι' b' = some (B, x') → False := by
        rintro b b' k k' B x x' e d ⟨e', hn⟩ d' i i'
        obtain ⟨B2, y, j, _⟩ := hH.blocks b' k' e' d'
        have := c3.le _ _ j
        rw [this] at i'; injection i' with i'; injection i' with i1 i2; subst i1
        rcases c3.range B2 ⟨b, k, x, e, d, i⟩ with l | l
        · exact hfr b' k' B2 y e' d' hn j l
        · have := hH.lt e' d' j; omega
      rcases hG b k e d with f1 | f1 <;> rcases hG b' k' e' d' with f2 | f2
      · exact c2.inj b b' k k' B x x' f1 d f2 d' i i'
      · exact (hmix b b' k k' B x x' f1 d f2 d' i i').elim
      · exact (hmix b' b k' k B x' x f2 d' f1 d i' i).elim
      · obtain ⟨B1, y1, j1, _⟩ := hH.blocks b k f1.1 d
        obtain ⟨B2, y2, j2, _⟩ := hH.blocks b' k' f2.1 d'
        have g1 := c3.le _ _ j1
        have g2 := c3.le _ _ j2
        rw [g1] at i; injection i with i; injection i with i _; subst i
        rw [g2] at i'; injection i' with i'; injection i' with i' _; subst i'
        exact hH.inj b b' k k' _ y1 y2 f1.1 d f2.1 d' j1 j2
    · intro b p e
      rw [hGn, m2]; exact c2.dom b p e
    · intro b k e
      rw [hGn]
      rw [← h5] at e
      rcases fillT_get2 lo H.heap b k e with e | ⟨e, _⟩
      · exact inL_lt m4 e
      · have := hH.fresh b k e; omega
    · rintro B ⟨b, k, x, e, d, i⟩
      rcases hG b k e d with e' | ⟨e', hn⟩
      · rcases c3.range B ⟨b, k, x, e', d, i⟩ with l | l
        · exact .inl (hlive B l)
        · exact .inr l
      · obtain ⟨B2, y, j, _⟩ := hH.blocks b k e' d
        have := c3.le _ _ j
        rw [this] at i; injection i with i; injection i with i1 i2; subst i1
        exact .inl ⟨b, k, y, e', d, j⟩
    · intro b k e
      rw [← h5] at e
      rcases fillT_get2 lo H.heap b k e with e | ⟨e, _⟩
      · rw [newsB, allL_eq] at m6
        have := List.all_eq_true.1 m6 _ e
        simp only at this
        rw [cnd_eq] at this
        split at this
        · next hb => right; rw [← h2]; simpa using hb
        · obtain ⟨k', hk'⟩ := inDom_true this
          exact .inl ⟨k', (subL_mem h3 hk').1⟩
      · exact .inl ⟨k, e⟩
    · intro b p e
      rcases c3.only b p e with l | l
      · exact .inl l
      · right; rw [← h2]; exact l
  · cases hm
end Go.Rem
namespace Go.Rem
/-- the functions of a mask alone -/
noncomputable def onlyL (m : Nat) (l : List (Nat × Func)) : List (Nat × Func) := List.rec [] (fun p _ ih => cnd (bitN m p.1) (p :: ih) ih) l
end Go.Rem
namespace Go.Rem
open Go.RowKit
/-- what a call is that needs no memory -/
theorem closed_ok {P : Program} {call : CallT} (hS : SoundC P call) {f : Nat} {v : Value} {H' : AH} (h : call f [] ⟨0, .nil⟩ = some (v, H')) (hv : isGround v = true) (w : World) :
    Calls P f #[] w fun e w' => e = .returned v ∧ Below w.heap.size w w' := by
  obtain ⟨k1, k2⟩ := hS _ _ _ _ _ h
  have hnil : ∀ b k, (⟨0, .nil⟩ : AH).get b = some k → False := by
    intro b k e
    have : (Tr.nil : Tr ABlk).get b = some k := e
    rw [Tr.get_nil] at this; cases this
  have hI : HRel P (fun _ => none) ⟨0, .nil⟩ w := ⟨fun b k e _ => (hnil b k e).elim, fun b b' k k' B x x' e _ _ _ _ _ => (hnil b k e).elim, fun b p e => (by cases e), fun b k e => (hnil b k e).elim⟩
  refine (k2 (fun _ => none) w #[] hI .nil).mono ?_
  rintro e w' ⟨ι', c, rfl, c1, c2, c3⟩
  rw [c1.ground_inv hv]
  exact ⟨rfl, c3.os, c3.tape, c3.output, c3.size, fun B hB => c3.junk B hB (by rintro ⟨b, k, x, e, _, _⟩; exact hnil b k e)⟩
end Go.Rem
