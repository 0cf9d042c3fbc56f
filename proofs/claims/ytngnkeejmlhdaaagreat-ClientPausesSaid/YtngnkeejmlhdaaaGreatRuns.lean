/- Runs. Texts joined by program (asm.py): RemEx RemEy RemEz RemNew. -/
import Derived.Test.YtngnkeejmlhdaaaGreatOps
set_option linter.all false
/-! Regions, code, calls. -/
namespace Go.Rem

@[simp] theorem fPa_eq {β : Type} (p : Pa) : ∀ (k : Pa → β), fPa p k = k p := by
  induction p with
  | h => intro k; rfl
  | o p ih => intro k; show fPa p (fun p => k (.o p)) = _; rw [ih]
  | i p ih => intro k; show fPa p (fun p => k (.i p)) = _; rw [ih]
@[simp] theorem fOpd_eq {β : Type} (x : AOpd) (k : AOpd → β) : fOpd x k = k x := by
  cases x with
  | t p => show fPa p (fun p => k (.t p)) = _; rw [fPa_eq]
  | c v => rfl
  | f n => rfl
  | bad => rfl
theorem fL_eq {α β : Type} {f : α → (α → β) → β} (hf : ∀ a k, f a k = k a) (l : List α) : ∀ (k : List α → β), fL f l k = k l := by
  induction l with
  | nil => intro k; rfl
  | cons a l ih => intro k; show f a (fun a => fL f l fun l => k (a :: l)) = _; rw [hf, ih]
theorem fO_eq {α β : Type} {f : α → (α → β) → β} (hf : ∀ a k, f a k = k a) (x : Option α) (k : Option α → β) : fO f x k = k x := by
  cases x with
  | none => rfl
  | some a => show f a (fun a => k (some a)) = _; rw [hf]
theorem fPart_eq {β : Type} (p : Nat × Nat × AOpd) (k : Nat × Nat × AOpd → β) : fPart p k = k p := by
  unfold fPart; rw [fOpd_eq]
theorem fOp_eq {β : Type} (x : AOp) (k : AOp → β) : fOp x k = k x := by
  cases x <;> simp only [fOp, fOpd_eq, fL_eq fOpd_eq, fL_eq fPart_eq, fO_eq fOpd_eq]
theorem fGuard_eq {β : Type} (g : Pa × Bool) (k : Pa × Bool → β) : fGuard g k = k g := by
  unfold fGuard; rw [fPa_eq]
theorem fOper_eq {β : Type} (o : AOper) (k : AOper → β) : fOper o k = k o := by
  unfold fOper; rw [fOp_eq, fO_eq fPa_eq, fO_eq fGuard_eq]
theorem fCode_eq {β : Type} (c : ACode) : ∀ (k : ACode → β), fCode c k = k c := by
  induction c with
  | skip => intro k; rfl
  | reg ops => intro k; show fL fOper ops (fun ops => k (.reg ops)) = _; rw [fL_eq fOper_eq]
  | draw ops n => intro k; show fL fOper ops (fun ops => k (.draw ops n)) = _; rw [fL_eq fOper_eq]
  | seq a b iha ihb => intro k; show fCode a (fun a => fCode b fun b => k (.seq a b)) = _; rw [iha, ihb]
  | cond x a b iha ihb => intro k; show fOpd x (fun x => fCode a fun a => fCode b fun b => k (.cond x a b)) = _; rw [fOpd_eq, iha, ihb]
  | block id b ih => intro k; show fCode b (fun b => k (.block id b)) = _; rw [ih]
  | loop b ih => intro k; show fCode b (fun b => k (.loop b)) = _; rw [ih]
  | exit id => intro k; rfl
  | ret => intro k; rfl
  | bad => intro k; rfl
theorem fRes_eq {β : Type} (r : ARes) (k : ARes → β) : fRes r k = k r := by
  cases r with
  | tmp p => show fPa p (fun p => k (.tmp p)) = _; rw [fPa_eq]
  | cell p ti => show fPa p (fun p => k (.cell p ti)) = _; rw [fPa_eq]
theorem fFunc_eq {β : Type} (F : AF) (k : AF → β) : fFunc F k = k F := by
  unfold fFunc; rw [fCode_eq, fL_eq fRes_eq]

/-- temporaries stand for temporaries; n: how many there are at least -/
structure AcR (ι : Ren) (n : Nat) (ρ : Tr Value) (a : Act) : Prop where
  val : ∀ t v, ρ.get t = some v → TR ι v (a.tmps.getD t undef)
  size : n ≤ a.tmps.size
  defers : a.defers = []

theorem AcR.mono {ι ι' : Ren} (hl : Le ι ι') {n : Nat} {ρ : Tr Value} {a : Act} (h : AcR ι n ρ a) : AcR ι' n ρ a :=
  ⟨fun t v e => (h.val t v e).mono hl, h.size, h.defers⟩
theorem AcR.ev {ι : Ren} {n : Nat} {ρ : Tr Value} {a : Act} (h : AcR ι n ρ a) : EvR ι ρ a := by
  intro x v hx
  cases x with
  | tmp t => exact h.val t v hx
  | const c =>
    change opd ρ (cnd (isGround c) (.c c) .bad) = some v at hx
    rw [cnd_eq] at hx
    split at hx
    · next hg => injection hx with hx; subst hx; exact TR.of_isGround ι hg
    · cases hx
  | func f =>
    change some (Value.func (.func f) #[] #[]) = some v at hx
    injection hx with hx; subst hx
    exact .sc (.fn .nil .nil)
  | global g => cases hx
theorem AcR.put {ι : Ren} {n : Nat} {ρ : Tr Value} {a : Act} (h : AcR ι n ρ a) {d : Option Tmp} (hd : dstOk n d = true) {v c : Value} (hr : TR ι v c) : AcR ι n (putT ρ (pDst d) v) (a.put d c) := by
  cases d with
  | none => exact h
  | some d =>
    have hd : d + 1 ≤ n := by simpa using (show Nat.ble (Nat.succ d) n = true from hd)
    have hlt : d < a.tmps.size := Nat.lt_of_lt_of_le hd h.size
    refine ⟨fun t u e => ?_, ?_, h.defers⟩
    · change (ρ.set d v).get t = some u at e
      rw [Tr.get_set_eq] at e
      show TR ι u ((a.tmps.setIfInBounds d c).getD t undef)
      split at e
      · next ht =>
        subst ht; injection e with e; subst e
        simp [Array.getD, hlt]
        exact hr
      · next ht =>
        have := h.val t u e
        simp only [Array.getD_eq_getD_getElem?, Array.getElem?_setIfInBounds_ne (Ne.symm ht)] at this ⊢
        exact this
    · show n ≤ (a.tmps.setIfInBounds d c).size
      simpa using h.size

theorem AcR.put_undef {ι : Ren} {n : Nat} {ρ : Tr Value} {a : Act} (h : AcR ι n ρ a) (d : Option Tmp) : AcR ι n (putT ρ (pDst d) undef) (a.put d undef) := by
  cases d with
  | none => exact h
  | some d =>
    refine ⟨fun t u e => ?_, ?_, h.defers⟩
    · change (ρ.set d undef).get t = some u at e
      rw [Tr.get_set_eq] at e
      show TR ι u ((a.tmps.setIfInBounds d undef).getD t undef)
      split at e
      · next ht =>
        subst ht; injection e with e; subst e
        have : (a.tmps.setIfInBounds t undef).getD t undef = undef := by
          by_cases hlt : t < a.tmps.size
          · simp [Array.getD, hlt]
          · simp [Array.getD, hlt]
        rw [this]
        exact .tup .nil
      · next ht =>
        have := h.val t u e
        simp only [Array.getD_eq_getD_getElem?, Array.getElem?_setIfInBounds_ne (Ne.symm ht)] at this ⊢
        exact this
    · show n ≤ (a.tmps.setIfInBounds d undef).size
      simpa using h.size

/-- what a call comes to -/
def CallR (P : Program) (ι : Ren) (H : AH) (w : World) (v : Value) (H' : AH) : Ending → World → Prop := fun e w' =>
  ∃ ι' c, e = .returned c ∧ TR ι' v c ∧ HRel P ι' H' w' ∧ Ext ι ι' H H' w w'
/-- calls are told truly -/
def SoundC (P : Program) (call : CallT) : Prop := ∀ f args H v H', call f args H = some (v, H') →
  Enterable P f ∧ ∀ ι w (cargs : Array Value), HRel P ι H w → All2 (TR ι) args cargs.toList → Calls P f cargs w (CallR P ι H w v H')

/-- one operation, whatever comes behind it -/
theorem step_ok {P : Program} {call : CallT} (hS : SoundC P call) {lay : Lay} (hL : LayOK P lay) {o : Oper} {ι : Ren} {ρ : Tr Value} {H H' : AH} {a : Act} {w : World} {v : Value}
    (hH : HRel P ι H w) (hE : EvR ι ρ a) (h : stepC call (opA ρ H (pOp lay o.op)) = some (v, H'))
    {next : Act → World → Prop} {Q : Exit → Act → World → Prop}
    (hk : ∀ ι' c w', TR ι' v c → HRel P ι' H' w' → Ext ι ι' H H' w w' → next (a.put o.dst c) w') : o.wp P a w next Q := by
  cases hq : opA ρ H (pOp lay o.op) with
  | none => rw [hq] at h; cases h
  | some p =>
    obtain ⟨q, H2⟩ := p
    rw [hq] at h
    rcases op_ok hH hE lay hL hq with ⟨u, rfl, hu⟩ | ⟨f, args, rfl, rfl, hu⟩
    · change some (u, H2) = some (v, H') at h
      injection h with h; injection h with h1 h2; subst h1; subst h2
      obtain ⟨r, c, w', ι', e1, e2, e3, e4, e5⟩ := hu
      unfold Oper.wp
      rw [e1]
      rcases e2 with rfl | ⟨rfl, rfl⟩
      · exact hk ι' c w' e3 e4 e5
      · exact hk ι' undef w' e3 e4 e5
    · change call f args H2 = some (v, H') at h
      obtain ⟨g1, g2⟩ := hS f args H2 v H' h
      obtain ⟨cargs, e1, e2⟩ := hu g1
      unfold Oper.wp
      rw [e1, Oper.upon_enter]
      refine (g2 ι w cargs hH e2).mono ?_
      rintro e w' ⟨ι', c, rfl, h1, h2, h3⟩
      exact hk ι' c w' h1 h2 h3

theorem nthL_arr {α : Type} (xs : Array α) (i : Nat) : nthL xs.toList i = xs[i]? := by rw [nthL_eq, Array.getElem?_toList]

/-- a guard says what it says -/
theorem wanted_ok {ι : Ren} {n : Nat} {ρ : Tr Value} {a : Act} (hA : AcR ι n ρ a) {ops : Array Oper} {o : Oper} {g : Pa × Bool} {b : Bool} (hg : pGuard ops.toList o.guard = some g) (h : wanted ρ g = some b) :
    Region.wanted o (yielded ops a.tmps) = b := by
  cases hog : o.guard with
  | none => rw [hog] at hg; cases hg
  | some jw =>
    obtain ⟨j, want⟩ := jw
    rw [hog] at hg
    change Option.rec none (fun q : Oper => mapO (fun d => (toPa d, want)) q.dst) (nthL ops.toList j) = some g at hg
    rw [nthL_arr] at hg
    cases hq : ops[j]? with
    | none => rw [hq] at hg; cases hg
    | some q =>
      rw [hq] at hg
      change mapO (fun d => (toPa d, want)) q.dst = some g at hg
      rw [mapO_eq, Option.map_eq_some_iff] at hg
      obtain ⟨d, hd, rfl⟩ := hg
      unfold wanted at h
      split at h
      · next c hc =>
        injection h with h
        have h1 := (hA.val d (.bool c) hc).bool_inv
        have h2 : a.tmps[d]? = some (.bool c) := by
          cases ht : a.tmps[d]? with
          | none => rw [Array.getD_eq_getD_getElem?, ht] at h1; cases h1
          | some v => rw [Array.getD_eq_getD_getElem?, ht] at h1; exact congrArg some h1
        have h3 : yielded ops a.tmps j = some c := by
          unfold yielded
          simp [hq, hd, h2]
        unfold Region.wanted
        rw [hog]
        simp only [h3]
        rw [← h]
        cases c <;> cases want <;> rfl
      · cases h

/-- a compiled operation, taken apart -/
theorem pOper_cases {lay : Lay} {nt i m : Nat} {ops : List Oper} {o : Oper} :
    (pOper lay nt ops i o m).dst = pDst o.dst ∧ (pOper lay nt ops i o m).guard = pGuard ops o.guard ∧ (pOper lay nt ops i o m).bef = m ∧
    ((pOper lay nt ops i o m).op = .bad ∨ ((pOper lay nt ops i o m).op = pOp lay o.op ∧ dstOk nt o.dst = true ∧ edgesOk i o.after.toList = true ∧ (o.guard.isSome = true → (pGuard ops o.guard).isSome = true))) := by
  refine ⟨rfl, rfl, rfl, ?_⟩
  show (cnd (cnd (dstOk nt o.dst) (cnd (edgesOk i o.after.toList) (cnd o.guard.isSome (pGuard ops o.guard).isSome true) false) false) (pOp lay o.op) .bad) = _ ∨ (cnd (cnd (dstOk nt o.dst) (cnd (edgesOk i o.after.toList) (cnd o.guard.isSome (pGuard ops o.guard).isSome true) false) false) (pOp lay o.op) .bad = _ ∧ _)
  cases h1 : dstOk nt o.dst with
  | false => exact .inl rfl
  | true =>
    cases h2 : edgesOk i o.after.toList with
    | false => exact .inl rfl
    | true =>
      cases h3 : o.guard.isSome with
      | false => exact .inr ⟨rfl, rfl, rfl, fun e => by cases e⟩
      | true =>
        cases h4 : (pGuard ops o.guard).isSome with
        | false => exact .inl rfl
        | true => exact .inr ⟨rfl, rfl, rfl, fun _ => rfl⟩
theorem opA_bad (ρ : Tr Value) (H : AH) : opA ρ H .bad = none := rfl

/-- a region in its order -/
theorem reg_ok {P : Program} {call : CallT} (hS : SoundC P call) {lay : Lay} (hL : LayOK P lay) {nt : Nat} {ops : Array Oper} {Q : Exit → Act → World → Prop} : ∀ (l pre : List Oper) (ms : List Nat) {ι : Ren} {ρ ρ' : Tr Value} {H H' : AH} {a : Act} {w : World},
    ops.toList = pre ++ l → runOps call (pOpers lay nt ops.toList l pre.length ms) ρ H = some (ρ', H') → AcR ι nt ρ a → HRel P ι H w →
    (∀ ι' a' w', AcR ι' nt ρ' a' → HRel P ι' H' w' → Ext ι ι' H H' w w' → Q .normal a' w') → wpOps P ops Q (List.range' pre.length l.length) a w := by
  intro l
  induction l with
  | nil =>
    intro pre ms ι ρ ρ' H H' a w _ h hA hH hQ
    injection h with h; injection h with h1 h2; subst h1; subst h2
    exact hQ ι a w hA hH (Ext.refl _ _ _)
  | cons o l ih =>
    intro pre ms ι ρ ρ' H H' a w hops h hA hH hQ
    obtain ⟨m, hm⟩ : ∃ m, m = maskOf pre.length ms o.after.toList := ⟨_, rfl⟩
    have hi : ops[pre.length]? = some o := by rw [← Array.getElem?_toList, hops]; simp
    obtain ⟨c1, c2, _, c4⟩ := pOper_cases (lay := lay) (nt := nt) (i := pre.length) (m := m) (ops := ops.toList) (o := o)
    change runOp call (pOper lay nt ops.toList pre.length o (maskOf pre.length ms o.after.toList)) (runOps call (pOpers lay nt ops.toList l (pre.length + 1) (maskOf pre.length ms o.after.toList :: ms))) ρ H = some (ρ', H') at h
    rw [← hm] at h
    have hnext : ∀ {ι' : Ren} {ρ1 : Tr Value} {H1 : AH} {a1 : Act} {w1 : World}, runOps call (pOpers lay nt ops.toList l (pre.length + 1) (m :: ms)) ρ1 H1 = some (ρ', H') → AcR ι' nt ρ1 a1 → HRel P ι' H1 w1 → Ext ι ι' H H1 w w1 →
        wpOps P ops Q (List.range' (pre.length + 1) l.length) a1 w1 := by
      intro ι' ρ1 H1 a1 w1 g1 g2 g3 g4
      have := ih (pre ++ [o]) (m :: ms) (ι := ι') (ρ := ρ1) (H := H1) (a := a1) (w := w1) (by rw [hops]; simp) (by simpa using g1) g2 g3 (fun ι2 a2 w2 k1 k2 k3 => hQ ι2 a2 w2 k1 k2 (g4.trans k3))
      simpa using this
    rw [List.length_cons, List.range'_succ]
    show (match ops[pre.length]? with
      | none => wpOps P ops Q _ a w
      | some o => if Region.wanted o (yielded ops a.tmps) then o.wp P a w (wpOps P ops Q _) Q ∨ (o.asks P a w ∧ LetsOut Q) else wpOps P ops Q _ (a.put o.dst undef) w)
    rw [hi]
    have hrun : ∀ (x : Option (Value × AH)), runThen (runOps call (pOpers lay nt ops.toList l (pre.length + 1) (m :: ms))) ρ (pDst o.dst) x = some (ρ', H') →
        ∃ v H1, x = some (v, H1) ∧ runOps call (pOpers lay nt ops.toList l (pre.length + 1) (m :: ms)) (putT ρ (pDst o.dst) v) H1 = some (ρ', H') := by
      intro x hx
      cases x with
      | none => cases hx
      | some p =>
        obtain ⟨v, H1⟩ := p
        refine ⟨v, H1, rfl, ?_⟩
        have hx2 : ((putT ρ (pDst o.dst) v).seq fun ρ => H1.seq fun H => runOps call (pOpers lay nt ops.toList l (pre.length + 1) (m :: ms)) ρ H) = some (ρ', H') := hx
        rwa [Tr.seq_eq, AH.seq_eq] at hx2
    have hgo : runThen (runOps call (pOpers lay nt ops.toList l (pre.length + 1) (m :: ms))) ρ (pDst o.dst) (stepC call (opA ρ H (pOper lay nt ops.toList pre.length o m).op)) = some (ρ', H') → (o.guard.isSome = true → (pOper lay nt ops.toList pre.length o m).op = .bad → False) →
        o.wp P a w (wpOps P ops Q (List.range' (pre.length + 1) l.length)) Q := by
      intro hx _
      obtain ⟨v, H1, e1, e2⟩ := hrun _ hx
      rcases c4 with c4 | ⟨c4, c5, _, _⟩
      · rw [c4] at e1; cases e1
      · rw [c4] at e1
        exact step_ok hS hL hH hA.ev e1 fun ι' c w' k1 k2 k3 => hnext e2 ((hA.mono k3.le).put c5 k1) k2 k3
    have hnob : ∀ {p : AOut × AH}, opA ρ H (pOper lay nt ops.toList pre.length o m).op = some p → (pOper lay nt ops.toList pre.length o m).op = .bad → False := by
      intro p hp hb; rw [hb] at hp; cases hp
    unfold runOp at h
    rw [c1] at h
    cases hg : pGuard ops.toList o.guard with
    | none =>
      have h' : runThen (runOps call (pOpers lay nt ops.toList l (pre.length + 1) (m :: ms))) ρ (pDst o.dst) (stepC call (opA ρ H (pOper lay nt ops.toList pre.length o m).op)) = some (ρ', H') := by
        rw [c2, hg] at h; exact h
      obtain ⟨v, H1, e1, e2⟩ := hrun _ h'
      have hog : o.guard = none := by
        rcases c4 with c4 | ⟨_, _, _, c6⟩
        · rw [c4] at e1; cases e1
        · cases hgg : o.guard with
          | none => rfl
          | some jw => have := c6 (by rw [hgg]; rfl); rw [hg] at this; cases this
      have hw : Region.wanted o (yielded ops a.tmps) = true := by unfold Region.wanted; rw [hog]
      simp only [hw, if_true]
      exact .inl (hgo h' (fun e => by rw [hog] at e; cases e))
    | some g =>
      rw [c2, hg] at h
      change Option.rec none (fun w => cnd w (runThen _ ρ (pDst o.dst) (stepC call (opA ρ H (pOper lay nt ops.toList pre.length o m).op))) (runThen _ ρ (pDst o.dst) (some (undef, H)))) (wanted ρ g) = some (ρ', H') at h
      cases hwg : wanted ρ g with
      | none => rw [hwg] at h; cases h
      | some b =>
        rw [hwg] at h
        have hw := wanted_ok hA hg hwg
        cases b with
        | true =>
          have h' : runThen (runOps call (pOpers lay nt ops.toList l (pre.length + 1) (m :: ms))) ρ (pDst o.dst) (stepC call (opA ρ H (pOper lay nt ops.toList pre.length o m).op)) = some (ρ', H') := h
          obtain ⟨v, H1, e1, e2⟩ := hrun _ h'
          simp only [hw, if_true]
          exact .inl (hgo h' (fun _ hb => by rw [hb] at e1; cases e1))
        | false =>
          have h' : runThen (runOps call (pOpers lay nt ops.toList l (pre.length + 1) (m :: ms))) ρ (pDst o.dst) (some (undef, H)) = some (ρ', H') := h
          obtain ⟨v, H1, e1, e2⟩ := hrun _ h'
          injection e1 with e1; injection e1 with e1 e3; subst e1; subst e3
          simp only [hw, Bool.false_eq_true, if_false]
          exact hnext e2 (hA.put_undef o.dst) hH (Ext.refl _ _ _)
end Go.Rem
/-! Code. -/
namespace Go.Rem

def exitOf : AExit → Exit
  | .normal => .normal
  | .exit id => .exit id
  | .ret => .ret
/-- what code comes to -/
def PostX (P : Program) (ι : Ren) (nt : Nat) (H : AH) (w : World) (r : AExit × Tr Value × AH) : Exit → Act → World → Prop := fun e a' w' =>
  ∃ ι', e = exitOf r.1 ∧ AcR ι' nt r.2.1 a' ∧ HRel P ι' r.2.2 w' ∧ Ext ι ι' H r.2.2 w w'

theorem least (p : Nat → Prop) : ∀ n, p n → ∃ m, p m ∧ ∀ k, p k → m ≤ k := by
  intro n
  induction n using Nat.strongRecOn with
  | _ n ih =>
    intro h
    by_cases hk : ∃ k, k < n ∧ p k
    · obtain ⟨k, hk, hp⟩ := hk; exact ih k hk hp
    · exact ⟨n, h, fun k hp => Nat.le_of_not_lt fun hlt => hk ⟨k, hlt, hp⟩⟩
theorem wp_loop_n {P : Program} {Q : Exit → Act → World → Prop} {c : Code} (R : Nat → Act → World → Prop) {n : Nat} {a : Act} {w : World} (h0 : R n a w)
    (round : ∀ m a w, R m a w → c.wp P (Exit.then (fun a' w' => ∃ m', m' < m ∧ R m' a' w') Q) a w) : (Code.loop c).wp P Q a w := by
  classical
  have hl : ∀ a w, (∃ m, R m a w) → ∃ m, R m a w ∧ ∀ k, R k a w → m ≤ k := fun a w h => h.elim fun m hm => least (fun m => R m a w) m hm
  let μ : Act → World → Nat := fun a w => if h : ∃ m, R m a w then Classical.choose (hl a w h) else 0
  have hμ : ∀ a w (h : ∃ m, R m a w), μ a w = Classical.choose (hl a w h) := fun a w h => dif_pos h
  refine wp_loop (fun a w => ∃ m, R m a w) μ ⟨n, h0⟩ ?_
  intro a w hI
  have hm : R (μ a w) a w := by rw [hμ a w hI]; exact (Classical.choose_spec (hl a w hI)).1
  refine wp_mono (round _ a w hm) ?_
  intro e a' w' hq
  cases e with
  | normal =>
    obtain ⟨m', hlt, hr⟩ := hq
    refine ⟨⟨m', hr⟩, Nat.lt_of_le_of_lt ?_ hlt⟩
    rw [hμ a' w' ⟨m', hr⟩]
    exact (Classical.choose_spec (hl a' w' ⟨m', hr⟩)).2 m' hr
  | _ => exact hq

/-- regions whose order is open -/
def DrawS (P : Program) (call : CallT) (lay : Lay) : Prop := ∀ (nt id : Nat) (ops : Array Oper) (ρ : Tr Value) (H : AH) (r : Tr Value × AH) (ι : Ren) (a : Act) (w : World),
  drawOk (pOpers lay nt ops.toList ops.toList 0 []) = true → drawD call (pOpers lay nt ops.toList ops.toList 0 []) (lenL (pOpers lay nt ops.toList ops.toList 0 [])) ρ H = some r → AcR ι nt ρ a → HRel P ι H w →
    (Code.region id ops true).wp P (PostX P ι nt H w (.normal, r)) a w

theorem xReg_some {x : Option (Tr Value × AH)} {r : AExit × Tr Value × AH} (h : xReg x = some r) : ∃ p, x = some p ∧ r = (.normal, p) := by
  cases x with
  | none => cases h
  | some p => injection h with h; exact ⟨p, rfl, h.symm⟩
theorem xSeq_some {x : ExecT} {k : Tr Value → AH → ExecT} {r : AExit × Tr Value × AH} (h : xSeq x k = some r) :
    (∃ ρ H, x = some (.normal, ρ, H) ∧ k ρ H = some r) ∨ (x = some r ∧ r.1 ≠ .normal) := by
  cases x with
  | none => cases h
  | some p =>
    obtain ⟨e, ρ, H⟩ := p
    cases e with
    | normal => exact .inl ⟨ρ, H, rfl, h⟩
    | exit id => right; injection h with h; subst h; exact ⟨rfl, by simp⟩
    | ret => right; injection h with h; subst h; exact ⟨rfl, by simp⟩

theorem exec_ok {P : Program} {call : CallT} (hS : SoundC P call) {lay : Lay} (hL : LayOK P lay) (hD : DrawS P call lay) (n nt : Nat) (c : Code) :
    ∀ {ρ : Tr Value} {H : AH} {r : AExit × Tr Value × AH} {ι : Ren} {a : Act} {w : World}, execC call n (pCode lay nt c) ρ H = some r → AcR ι nt ρ a → HRel P ι H w → c.wp P (PostX P ι nt H w r) a w := by
  induction c with
  | skip =>
    intro ρ H r ι a w h hA hH
    injection h with h; subst h
    exact wp_skip ⟨ι, rfl, hA, hH, Ext.refl _ _ _⟩
  | region id ops d =>
    intro ρ H r ι a w h hA hH
    change execC call n (fL fOper (pOpers lay nt ops.toList ops.toList 0 []) fun l => cnd d (cnd (drawOk l) (.draw l (lenL l)) .bad) (.reg l)) ρ H = some r at h
    rw [fL_eq fOper_eq] at h
    cases d with
    | false =>
      obtain ⟨⟨ρ', H'⟩, h1, rfl⟩ := xReg_some (show xReg (runOps call (pOpers lay nt ops.toList ops.toList 0 []) ρ H) = some r from h)
      refine wp_region ?_
      have := reg_ok (Q := PostX P ι nt H w (.normal, ρ', H')) hS hL ops.toList [] [] (ops := ops) rfl h1 hA hH (fun ι' a' w' k1 k2 k3 => ⟨ι', rfl, k1, k2, k3⟩)
      rw [List.range_eq_range']
      simpa using this
    | true =>
      rw [cnd_true] at h
      cases hdr : drawOk (pOpers lay nt ops.toList ops.toList 0 []) with
      | false => rw [hdr] at h; cases h
      | true =>
        rw [hdr] at h
        obtain ⟨p, h1, rfl⟩ := xReg_some (show xReg (drawD call (pOpers lay nt ops.toList ops.toList 0 []) (lenL (pOpers lay nt ops.toList ops.toList 0 [])) ρ H) = some r from h)
        exact hD nt id ops ρ H p ι a w hdr h1 hA hH
  | seq x y ihx ihy =>
    intro ρ H r ι a w h hA hH
    refine wp_seq ?_
    rcases xSeq_some (show xSeq (execC call n (pCode lay nt x) ρ H) (execC call n (pCode lay nt y)) = some r from h) with ⟨ρ1, H1, h1, h2⟩ | ⟨h1, hne⟩
    · refine wp_mono (ihx h1 hA hH) ?_
      rintro e a1 w1 ⟨ι1, rfl, k1, k2, k3⟩
      refine wp_mono (ihy h2 k1 k2) ?_
      rintro e a2 w2 ⟨ι2, k4, k5, k6, k7⟩
      exact ⟨ι2, k4, k5, k6, k3.trans k7⟩
    · refine wp_mono (ihx h1 hA hH) ?_
      rintro e a1 w1 ⟨ι1, rfl, k1, k2, k3⟩
      obtain ⟨e, ρ1, H1⟩ := r
      cases e with
      | normal => exact absurd rfl hne
      | exit id => exact ⟨ι1, rfl, k1, k2, k3⟩
      | ret => exact ⟨ι1, rfl, k1, k2, k3⟩
  | cond x y z ihy ihz =>
    intro ρ H r ι a w h hA hH
    change xCond (opd ρ (pOpd x)) (fun _ => execC call n (pCode lay nt y) ρ H) (fun _ => execC call n (pCode lay nt z) ρ H) = some r at h
    unfold xCond at h
    split at h
    · next t ht =>
      have hv := (hA.ev x _ ht).bool_inv
      refine wp_cond hv ?_
      cases t with
      | true => exact ihy h hA hH
      | false => exact ihz h hA hH
    · cases h
  | block id b ih =>
    intro ρ H r ι a w h hA hH
    refine wp_block ?_
    change xBlock id (execC call n (pCode lay nt b) ρ H) = some r at h
    cases hx : execC call n (pCode lay nt b) ρ H with
    | none => rw [hx] at h; cases h
    | some p =>
      rw [hx] at h
      refine wp_mono (ih hx hA hH) ?_
      rintro e a1 w1 ⟨ι1, rfl, k1, k2, k3⟩
      obtain ⟨e, ρ1, H1⟩ := p
      cases e with
      | normal => injection h with h; subst h; exact ⟨ι1, rfl, k1, k2, k3⟩
      | ret => injection h with h; subst h; exact ⟨ι1, rfl, k1, k2, k3⟩
      | exit i =>
        change cnd (Nat.beq i id) (some (AExit.normal, ρ1, H1)) (some (AExit.exit i, ρ1, H1)) = some r at h
        rw [cnd_eq] at h
        split at h
        · next hi =>
          have hi : i = id := by simpa using hi
          subst hi
          injection h with h; subst h
          show (if i = i then _ else _)
          rw [if_pos rfl]
          exact ⟨ι1, rfl, k1, k2, k3⟩
        · next hi =>
          have hi : i ≠ id := by simpa using hi
          injection h with h; subst h
          show (if i = id then _ else _)
          rw [if_neg hi]
          exact ⟨ι1, rfl, k1, k2, k3⟩
  | loop b ih =>
    intro ρ H r ι a w h hA hH
    change loopF (execC call n (pCode lay nt b)) n ρ H = some r at h
    refine wp_loop_n (fun m a' w' => ∃ ι' ρ' H', loopF (execC call n (pCode lay nt b)) m ρ' H' = some r ∧ AcR ι' nt ρ' a' ∧ HRel P ι' H' w' ∧ Ext ι ι' H H' w w') ⟨ι, ρ, H, h, hA, hH, Ext.refl _ _ _⟩ ?_
    rintro m a1 w1 ⟨ι1, ρ1, H1, h1, k1, k2, k3⟩
    cases m with
    | zero => cases h1
    | succ m =>
      rcases xSeq_some (show xSeq (execC call n (pCode lay nt b) ρ1 H1) (loopF (execC call n (pCode lay nt b)) m) = some r from h1) with ⟨ρ2, H2, h2, h3⟩ | ⟨h2, hne⟩
      · refine wp_mono (ih h2 k1 k2) ?_
        rintro e a2 w2 ⟨ι2, rfl, k4, k5, k6⟩
        exact ⟨m, Nat.lt_succ_self m, ι2, ρ2, H2, h3, k4, k5, k3.trans k6⟩
      · refine wp_mono (ih h2 k1 k2) ?_
        rintro e a2 w2 ⟨ι2, rfl, k4, k5, k6⟩
        obtain ⟨e, ρ2, H2⟩ := r
        cases e with
        | normal => exact absurd rfl hne
        | exit id => exact ⟨ι2, rfl, k4, k5, k3.trans k6⟩
        | ret => exact ⟨ι2, rfl, k4, k5, k3.trans k6⟩
  | exit id =>
    intro ρ H r ι a w h hA hH
    injection h with h; subst h
    exact wp_exit ⟨ι, rfl, hA, hH, Ext.refl _ _ _⟩
  | ret =>
    intro ρ H r ι a w h hA hH
    injection h with h; subst h
    exact wp_ret ⟨ι, rfl, hA, hH, Ext.refl _ _ _⟩
  | _ => intro ρ H r ι a w h hA hH; cases h
end Go.Rem
/-! Calls. -/
namespace Go.Rem

theorem setArgs_get (vs : List Value) : ∀ (ρ : Tr Value) (i t : Nat), (setArgs ρ i vs).get t = if i ≤ t ∧ t < i + vs.length then vs[t - i]? else ρ.get t := by
  induction vs with
  | nil =>
    intro ρ i t
    show ρ.get t = _
    rw [if_neg]
    simp only [List.length_nil]; omega
  | cons v vs ih =>
    intro ρ i t
    have : setArgs ρ i (v :: vs) = setArgs (ρ.set i v) (i + 1) vs := by
      show ((ρ.set i v).seq fun ρ => setArgs ρ (Nat.add i 1) vs) = _
      rw [Tr.seq_eq]
    rw [this, ih, Tr.get_set_eq]
    by_cases h1 : t = i
    · subst h1
      have h3 : ¬ (t + 1 ≤ t ∧ t < t + 1 + vs.length) := by omega
      have h4 : t ≤ t ∧ t < t + (v :: vs).length := ⟨Nat.le_refl _, by simp only [List.length_cons]; omega⟩
      rw [if_neg h3, if_pos rfl, if_pos h4, Nat.sub_self]; rfl
    · by_cases h2 : i + 1 ≤ t ∧ t < i + 1 + vs.length
      · have h4 : i ≤ t ∧ t < i + (v :: vs).length := ⟨by omega, by simp only [List.length_cons]; omega⟩
        rw [if_pos h2, if_pos h4]
        have : t - i = t - (i + 1) + 1 := by omega
        simp [this]
      · have h4 : ¬ (i ≤ t ∧ t < i + (v :: vs).length) := by simp only [List.length_cons]; omega
        rw [if_neg h2, if_neg h1, if_neg h4]

theorem enter_ac {ι : Ren} {args : List Value} {cargs : Array Value} (h : All2 (TR ι) args cargs.toList) (n : Nat) :
    AcR ι n (setArgs .nil 0 args) { tmps := cargs ++ Array.replicate (n - cargs.size) undef, defers := [] } := by
  refine ⟨fun t v e => ?_, by simp; omega, rfl⟩
  rw [setArgs_get] at e
  split at e
  · next ht =>
    obtain ⟨c, hc, hr⟩ := h.get (by simpa using e)
    have hc' : cargs[t]? = some c := by rw [← Array.getElem?_toList]; exact hc
    have hlt : t < cargs.size := by
      rcases Nat.lt_or_ge t cargs.size with h | h
      · exact h
      · rw [Array.getElem?_eq_none h] at hc'; cases hc'
    have : (cargs ++ Array.replicate (n - cargs.size) undef).getD t undef = c := by
      rw [Array.getD_eq_getD_getElem?, Array.getElem?_append_left hlt, hc']; rfl
    rw [this]; exact hr
  · rw [Tr.get_nil] at e; cases e

/-- one result -/
def resS (r : ResultVar) (tmps : Array Value) : Sem Value :=
  match r with
  | .tmp t => pure (tmps.getD t undef)
  | .cell a t => do loadVar t (← asAddr (tmps.getD a undef))

theorem res_ok {P : Program} {lay : Lay} (hL : LayOK P lay) {ι : Ren} {n : Nat} {ρ : Tr Value} {H : AH} {a : Act} {w : World} (hA : AcR ι n ρ a) (hH : HRel P ι H w) {r : ResultVar} {ar : ARes} (hp : pRes lay r = some ar)
    {v : Value} (h : resA ρ H ar = some v) : ∃ c, (resS r a.tmps).run P w = .ok c w ∧ TR ι v c := by
  cases r with
  | tmp t =>
    injection hp with hp; subst hp
    exact ⟨_, rfl, hA.val t v h⟩
  | cell x t =>
    change Option.rec none (fun ti => some (ARes.cell (toPa x) ti)) (lay t) = some ar at hp
    cases ht : lay t with
    | none => rw [ht] at hp; cases hp
    | some ti =>
      rw [ht] at hp
      injection hp with hp; subst hp
      obtain ⟨u, h1, h2⟩ := bind1_some (show bind1 (ρ.at (toPa x)) (loadA ti H) = some v from h)
      obtain ⟨B, off, c, e1, e2, e3⟩ := loadVar_ok hH (hL t ti ht) (hA.val x u h1) h2
      refine ⟨c, ?_, e3⟩
      simp [resS, e1, asAddr, e2]

theorem results_eq (fn : Func) (tmps : Array Value) : results fn tmps = (do
    let vs ← fn.results.mapM fun r => resS r tmps
    pure (if h : vs.size = 1 then vs[0] else .tuple vs)) := by
  unfold results
  congr 1

theorem resL_ok {P : Program} {lay : Lay} (hL : LayOK P lay) {ι : Ren} {n : Nat} {ρ : Tr Value} {H : AH} {a : Act} {w : World} (hA : AcR ι n ρ a) (hH : HRel P ι H w) : ∀ {rs : List ResultVar} {ars : List ARes}, pRess lay rs = some ars →
    ∀ {vs : List Value}, resL ρ H ars = some vs → ∃ cs, (rs.mapM fun r => resS r a.tmps).run P w = .ok cs w ∧ All2 (TR ι) vs cs := by
  intro rs
  induction rs with
  | nil =>
    intro ars h vs h2
    injection h with h; subst h
    injection h2 with h2; subst h2
    exact ⟨[], rfl, .nil⟩
  | cons r rs ih =>
    intro ars h vs h2
    change Option.rec none (fun a => mapO (a :: ·) (pRess lay rs)) (pRes lay r) = some ars at h
    cases hr : pRes lay r with
    | none => rw [hr] at h; cases h
    | some ar =>
      rw [hr] at h
      obtain ⟨ars', h3, rfl⟩ := Option.map_eq_some_iff.1 (by rw [← mapO_eq]; exact h)
      change Option.rec none (fun v => mapO (v :: ·) (resL ρ H ars')) (resA ρ H ar) = some vs at h2
      cases hv : resA ρ H ar with
      | none => rw [hv] at h2; cases h2
      | some v =>
        rw [hv] at h2
        obtain ⟨vs', h4, rfl⟩ := Option.map_eq_some_iff.1 (by rw [← mapO_eq]; exact h2)
        obtain ⟨c, e1, e2⟩ := res_ok hL hA hH hr hv
        obtain ⟨cs, e3, e4⟩ := ih h3 h4
        exact ⟨c :: cs, by simp [e1, e3], .cons e2 e4⟩

theorem ress_ok {P : Program} {lay : Lay} (hL : LayOK P lay) {ι : Ren} {n : Nat} {ρ : Tr Value} {H : AH} {a : Act} {w : World} (hA : AcR ι n ρ a) (hH : HRel P ι H w) {fn : Func} {ars : List ARes} (hp : pRess lay fn.results.toList = some ars)
    {v : Value} (h : ressA ρ H ars = some v) : ∃ c, (results fn a.tmps).run P w = .ok c w ∧ TR ι v c := by
  have key : ∀ {vs : List Value}, resL ρ H ars = some vs → ∃ cs : List Value, (results fn a.tmps).run P w = .ok (if h : cs.toArray.size = 1 then cs.toArray[0] else .tuple cs.toArray) w ∧ All2 (TR ι) vs cs := by
    intro vs hv
    obtain ⟨cs, e1, e2⟩ := resL_ok hL hA hH hp hv
    refine ⟨cs, ?_, e2⟩
    rw [results_eq]
    have e3 : (fn.results.mapM fun r => resS r a.tmps) = List.toArray <$> (fn.results.toList.mapM fun r => resS r a.tmps) := Array.mapM_eq_mapM_toList
    rw [e3]
    simp [e1]
  have tup : ∀ {vs : List Value} {cs : List Value}, All2 (TR ι) vs cs → allL notTup vs = true → All2 (AR ι) vs cs := by
    intro vs cs hr hn
    rw [allL_eq] at hn
    induction hr with
    | nil => exact .nil
    | cons r _ ih =>
      simp only [List.all_cons, Bool.and_eq_true] at hn
      exact .cons (notTup_ar r hn.1) (ih hn.2)
  unfold ressA at h
  split at h
  · next r =>
    obtain ⟨cs, e1, e2⟩ := key (vs := [v]) (by
      show Option.rec none (fun v => mapO (v :: ·) (some [])) (resA ρ H r) = some [v]
      rw [h]; rfl)
    cases e2 with
    | cons r0 e2 =>
      cases e2
      exact ⟨_, e1, r0⟩
  · next hne =>
    cases hv : resL ρ H ars with
    | none => rw [hv] at h; cases h
    | some vs =>
      rw [hv] at h
      obtain ⟨hn, h2⟩ := cnd_some (show cnd (allL notTup vs) (some (tupOf vs)) none = some v from h)
      injection h2 with h2; subst h2
      obtain ⟨cs, e1, e2⟩ := key hv
      refine ⟨_, e1, ?_⟩
      have hlen : cs.toArray.size ≠ 1 := by
        intro hc
        have hl : ars.length = 1 := by
          have h1 : ∀ (l : List ARes) (vs : List Value), resL ρ H l = some vs → vs.length = l.length := by
            intro l
            induction l with
            | nil => intro vs h; injection h with h; subst h; rfl
            | cons r l ih =>
              intro vs h
              change Option.rec none (fun v => mapO (v :: ·) (resL ρ H l)) (resA ρ H r) = some vs at h
              cases hx : resA ρ H r with
              | none => rw [hx] at h; cases h
              | some x =>
                rw [hx] at h
                obtain ⟨vs', h4, rfl⟩ := Option.map_eq_some_iff.1 (by rw [← mapO_eq]; exact h)
                simp [ih vs' h4]
          rw [← h1 _ _ hv, e2.length]; simpa using hc
        obtain ⟨r, rfl⟩ := List.length_eq_one_iff.1 hl
        exact hne r rfl
      rw [dif_neg hlen]
      exact .tup (by simpa [tupOf] using tup e2 hn)

/-- the functions of a table are the program's -/
def FnsOK (P : Program) (lay : Lay) (fn : Tr AF) : Prop := ∀ f AF, fn.get f = some AF → ∃ F, P.funcs[f]? = some F ∧ pFunc lay F = some AF ∧ F.name ≠ "runtime.NumGoroutine"

theorem callF_ok {P : Program} {lay : Lay} (hL : LayOK P lay) {E : Env} (hF : FnsOK P lay E.fn) (hO : SoundC P E.orc) {call : CallT} (hS : SoundC P call) (hD : DrawS P call lay) (n : Nat) : SoundC P (callF E call n) := by
  intro f args H v H' h
  unfold callF at h
  cases hf : E.fn.get f with
  | none => rw [hf] at h; exact hO f args H v H' h
  | some AF =>
    rw [hf] at h
    change ((setArgs .nil 0 args).seq fun ρ => xRes AF.results (execC call n AF.body ρ H)) = some (v, H') at h
    rw [Tr.seq_eq] at h
    obtain ⟨F, h1, h2, h3⟩ := hF f AF hf
    unfold pFunc at h2
    cases hb : F.body with
    | none => rw [hb] at h2; cases h2
    | some c =>
      rw [hb] at h2
      change Option.rec none (fun rs => some ⟨pCode lay F.ntmps c, rs⟩) (pRess lay F.results.toList) = some AF at h2
      cases hr : pRess lay F.results.toList with
      | none => rw [hr] at h2; cases h2
      | some rs =>
        rw [hr] at h2
        injection h2 with h2; subst h2
        refine ⟨⟨F, h1, by rw [hb]; rfl, h3⟩, ?_⟩
        intro ι w cargs hH hargs
        cases hx : execC call n (pCode lay F.ntmps c) (setArgs .nil 0 args) H with
        | none => rw [hx] at h; cases h
        | some r =>
          rw [hx] at h
          refine calls_of_wp h1 hb ?_
          refine wp_mono (exec_ok hS hL hD n F.ntmps c hx (enter_ac hargs F.ntmps) hH) ?_
          rintro e a' w' ⟨ι', rfl, k1, k2, k3⟩
          obtain ⟨e, ρ', H2⟩ := r
          have fin : mapO (fun v => (v, H2)) (ressA ρ' H2 rs) = some (v, H') → a'.defers = [] ∧ ∃ v', (results F a'.tmps).run P w' = .ok v' w' ∧ CallR P ι H w v H' (.returned v') w' := by
            intro h4
            obtain ⟨u, h5, h6⟩ := Option.map_eq_some_iff.1 (by rw [← mapO_eq]; exact h4)
            injection h6 with h6 h7; subst h6; subst h7
            obtain ⟨c, e1, e2⟩ := ress_ok hL k1 k2 hr h5
            exact ⟨k1.defers, c, e1, ι', c, rfl, e2, k2, k3⟩
          cases e with
          | normal => exact fin h
          | ret => exact fin h
          | exit id => cases h

theorem callE_ok {P : Program} {lay : Lay} (hL : LayOK P lay) {E : Env} (hF : FnsOK P lay E.fn) (hO : SoundC P E.orc) (hD : ∀ call, SoundC P call → DrawS P call lay) (n : Nat) : ∀ d, SoundC P (callE E n d) := by
  intro d
  induction d with
  | zero => intro f args H v H' h; cases h
  | succ d ih => exact callF_ok hL hF hO ih (hD _ ih) n
end Go.Rem
/-! What makes memory, under any number that is free. -/
namespace Go.Rem

/-- a block is made, under a free number -/
theorem HRel.newAt {P : Program} {ι : Ren} {H : AH} {w : World} (h : HRel P ι H w) {m : Nat} (hm : ι m = none) (hg : H.get m = none) (hlt : m < H.next) {k : ABlk} (hk : k ≠ .dead) (x : Nat) (o : Obj)
    (hr : BlkR P ι k x (some o)) {G : AH} (hG : ∀ c, G.get c = if c = m then some k else H.get c) (hn : G.next = H.next) :
    HRel P (add ι m (w.heap.size, x)) G { w with heap := w.heap.push o } := by
  have hle : Le ι (add ι m (w.heap.size, x)) := by
    intro b q hb
    simp only [add]; rw [if_neg (fun e => by rw [e, hm] at hb; cases hb)]; exact hb
  have hget : ∀ b k', G.get b = some k' → (b = m ∧ k' = k) ∨ (b ≠ m ∧ H.get b = some k') := by
    intro b k' e
    rw [hG] at e
    split at e
    · next e' => injection e with e; exact .inl ⟨e', e.symm⟩
    · next e' => exact .inr ⟨e', e⟩
  have hι : ∀ b p, b ≠ m → add ι m (w.heap.size, x) b = some p → ι b = some p := by
    intro b p hb e; simp only [add] at e; rw [if_neg hb] at e; exact e
  have hltS : ∀ b k' B y, H.get b = some k' → k' ≠ .dead → ι b = some (B, y) → B < w.heap.size := fun b k' B y e1 e2 e3 => h.lt e1 e2 e3
  refine ⟨?_, ?_, ?_, ?_⟩
  · intro b k' e hk'
    rcases hget b k' e with ⟨rfl, rfl⟩ | ⟨hb, e⟩
    · exact ⟨_, _, add_same _ _ _, by simpa using hr.mono hle⟩
    · obtain ⟨B, y, e1, e2⟩ := h.blocks b k' e hk'
      refine ⟨B, y, hle _ _ e1, ?_⟩
      have := hltS _ _ _ _ e hk' e1
      have e3 : ({ w with heap := w.heap.push o } : World).heap[B]? = w.heap[B]? := by simp [Array.getElem?_push, Nat.ne_of_lt this]
      rw [e3]; exact e2.mono hle
  · intro b b' k1 k2 B y y' e1 d1 e2 d2 i1 i2
    rcases hget b k1 e1 with ⟨rfl, rfl⟩ | ⟨hb, f1⟩ <;> rcases hget b' k2 e2 with ⟨rfl, rfl⟩ | ⟨hb', f2⟩
    · rfl
    · rw [add_same] at i1; injection i1 with i1; injection i1 with i1 _
      have := hltS _ _ _ _ f2 d2 (hι _ _ hb' i2); omega
    · rw [add_same] at i2; injection i2 with i2; injection i2 with i2 _
      have := hltS _ _ _ _ f1 d1 (hι _ _ hb i1); omega
    · exact h.inj b b' k1 k2 B y y' f1 d1 f2 d2 (hι _ _ hb i1) (hι _ _ hb' i2)
  · intro b p e
    rw [hn]
    by_cases hb : b = m
    · omega
    · exact h.dom b p (hι _ _ hb e)
  · intro b k' e
    rw [hn]
    rcases hget b k' e with ⟨rfl, _⟩ | ⟨_, e⟩
    · exact hlt
    · exact h.fresh b k' e
theorem Ext.newAt {ι₀ ι : Ren} {H₀ H G : AH} {w₀ w : World} (h : Ext ι₀ ι H₀ H w₀ w) {m : Nat} (hm : ι m = none) (hl : H₀.next ≤ m) {k : ABlk} (x : Nat) (o : Obj)
    (hG : ∀ c, G.get c = if c = m then some k else H.get c) (hn : G.next = H.next) :
    Ext ι₀ (add ι m (w.heap.size, x)) H₀ G w₀ { w with heap := w.heap.push o } where
  le b p e := by
    have := h.le b p e
    simp only [add]; rw [if_neg (fun e' => by rw [e', hm] at this; cases this)]; exact this
  size := Nat.le_trans h.size (by simp)
  next := by rw [hn]; exact h.next
  junk B hB hL := by
    have hs := h.size
    have : B ≠ w.heap.size := by omega
    simp only [Array.getElem?_push, this, if_false]
    exact h.junk B hB hL
  range B := by
    rintro ⟨b, k', y, e, hk', i⟩
    rw [hG] at e
    split at e
    · next hb =>
      rw [hb, add_same] at i; injection i with i; injection i with i _
      right; rw [← i]; exact h.size
    · next hb =>
      simp only [add] at i; rw [if_neg hb] at i
      exact h.range B ⟨b, k', y, e, hk', i⟩
  news b k' e := by
    rw [hG] at e
    split at e
    · next hb => right; omega
    · exact h.news b k' e
  tape := h.tape
  os := h.os
  output := h.output
  only b p e := by
    by_cases hb : b = m
    · right; omega
    · simp only [add] at e; rw [if_neg hb] at e; exact h.only b p e

/-- what makes a block, and a value that is of its number -/
def NewOK (P : Program) (a : Act) (o : Oper) (ι : Ren) (w : World) (k : ABlk) (mk : Nat → Value) : Prop :=
  ∃ x ob c, (execOp a.eval o).run P w = .ok (.value c) { w with heap := w.heap.push ob } ∧ BlkR P ι k x (some ob) ∧ k ≠ .dead ∧ ∀ m, TR (add ι m (w.heap.size, x)) (mk m) c

section
variable {P : Program} {a : Act} {o : Oper} {ι : Ren} {ρ : Tr Value} {w : World} (hE : EvR ι ρ a)
include hE
theorem cells_newE {vs : List Value} {c : Array Value} (e : TypeId) (h : All2 (SR ι) vs c.toList) : BlkR P ι (.cells vs e false) 0 (some (.cells c e (0, 0))) :=
  ⟨c.toList, [], 0, 0, by simp, h, fun _ => ⟨rfl, rfl⟩, (fun h => by cases h), .inl rfl⟩

theorem new_alloc (lay : Lay) (hL : LayOK P lay) (t : TypeId) (ti : TI) (hti : lay t = some ti) (ho : o.op = .alloc t) :
    NewOK P a o ι w (.cells ti.zero t false) (fun m => .pointer (some ⟨m, 0, none⟩)) := by
  have hT := hL t ti hti
  obtain ⟨z, hz, hz1, _⟩ := hT.run_zero w
  obtain ⟨i0, d0, z0, k1, k2, k3, k4, k5, k6, k7, k8, k9, k10, k11, k12⟩ := hT.ok
  refine ⟨0, .cells z.cells t (0, 0), .pointer (some ⟨w.heap.size, 0, none⟩), ?_, cells_newE hE t (by rw [hz1]; exact base_rel ι k11), by simp, fun m => .base (.ptr (add_same _ _ _))⟩
  simp [execOp, ho, Instr.alloc, hz, newVar, newRow]
theorem new_box (t : TypeId) (x : Operand) (ho : o.op = .box t x) {H : AH} {q : AOut} {H' : AH} (h : bind1 (opd ρ (pOpd x)) (boxA H t) = some (q, H')) :
    ∃ k mk, q = .val (mk H.next) ∧ H' = H.new k ∧ NewOK P a o ι w k mk := by
  obtain ⟨u, h1, h2⟩ := bind1_some h
  have hx := hE x u h1
  unfold boxA at h2
  obtain ⟨hc, h2⟩ := cnd_some h2
  unfold newOut at h2
  injection h2 with h2; injection h2 with h2 h3; subst h2; subst h3
  refine ⟨_, fun m => .pointer (some ⟨m, 0, none⟩), rfl, rfl, 0, .cells (a.eval x).cells t (0, 0), .pointer (some ⟨w.heap.size, 0, none⟩), ?_, cells_newE hE t (cells_rel hx hc), by simp, fun m => .base (.ptr (add_same _ _ _))⟩
  simp [execOp, ho, Instr.box, newVar, newRow]
theorem new_makeMap (t : TypeId) (ho : o.op = .makeMap t none) : NewOK P a o ι w (.map []) (fun m => .map (some m)) := by
  refine ⟨0, .map #[] 0, .map (some w.heap.size), ?_, ⟨#[], 0, rfl, .nil, StB.empty 0⟩, by simp, fun m => .base (.map (add_same _ _ _))⟩
  simp [execOp, ho, Instr.makeMap]
theorem new_makeSlice (lay : Lay) (hL : LayOK P lay) (t : TypeId) (x y : Operand) (ti te : TI) (hti : lay t = some ti) (hte : lay ti.elem = some te) (hk : ti.kind = 4) (ho : o.op = .makeSlice t x y)
    {H : AH} {q : AOut} {H' : AH} (h : bind2 (opd ρ (pOpd x)) (opd ρ (pOpd y)) (makeSliceA te ti.elem H) = some (q, H')) : ∃ k mk, q = .val (mk H.next) ∧ H' = H.new k ∧ NewOK P a o ι w k mk := by
  obtain ⟨u, u', h1, h2, h3⟩ := bind2_some h
  have hx := hE x u h1
  have hy := hE y u' h2
  unfold makeSliceA at h3
  split at h3
  · next l =>
    split at h3
    · next c =>
      obtain ⟨hc, h4⟩ := cnd_some h3
      simp only [Bool.and_eq_true, Nat.ble_eq] at hc
      unfold newOut at h4
      injection h4 with h4; injection h4 with h4 h5; subst h4; subst h5
      refine ⟨_, fun m => .slice (some ⟨m, 0, none⟩) l (Nat.mul 2 c), rfl, rfl, ?_⟩
      have hT := hL _ te hte
      obtain ⟨d, hd, hD, _⟩ := (hL t ti hti).run_underlying w
      have := hD.2.2.2.1 hk; subst this
      obtain ⟨i, hi, hib, his⟩ := hT.run_info w
      obtain ⟨z, hz, hz1, _⟩ := hT.run_zero w
      obtain ⟨i0, d0, z0, k1, k2, k3, k4, k5, k6, k7, k8, k9, k10, k11, k12⟩ := hT.ok
      have hsz := hT.run_size w
      have ex := hx.int_inv
      have ey := hy.int_inv
      have wl : IntKind.i64.wrap (l : Int) = (l : Int) := IntWalk.i64_in _ (by omega)
      have wc : IntKind.i64.wrap (c : Int) = (c : Int) := IntWalk.i64_in _ (by omega)
      have hbig : ¬ (281474976710656 < (i.bytes : Int) * (c : Int)) := by
        have h5 : i.bytes * c ≤ 268435456 := Nat.le_trans (Nat.mul_le_mul (by rw [hib]; exact hc.2.2) hc.2.1) (by decide)
        have h6 : ((i.bytes * c : Nat) : Int) ≤ ((268435456 : Nat) : Int) := Int.ofNat_le.2 h5
        rw [Int.natCast_mul] at h6
        generalize (i.bytes : Int) * (c : Int) = X at h6
        omega
      have hlc : ¬ ((l : Int) < 0) := by omega
      have hcl : ¬ ((l : Int) > (c : Int)) := by omega
      have hc0 : ¬ ((c : Int) < 0) := by omega
      have key : ∃ cs : Array Value, (execOp a.eval o).run P w = .ok (.value (.slice (some ⟨w.heap.size, 0, none⟩) l c)) { w with heap := w.heap.push (.cells cs ti.elem (0, 0)) } ∧
          All2 (SR ι) (repL te.zero c) cs.toList := by
        by_cases hn : c * te.size = 0
        · refine ⟨#[], ?_, ?_⟩
          · simp [execOp, ho, Instr.makeSlice, hd, ex, ey, asInt, asIntOf, hi, wl, wc, hbig, hlc, hcl, hc0, hsz, hn, newRow, range0]
          · have : repL te.zero c = [] := by
              rw [repL_eq]
              rcases Nat.mul_eq_zero.1 hn with e | e
              · subst e; rfl
              · have : te.zero = [] := by apply List.eq_nil_of_length_eq_zero; omega
                rw [this]; simp
            rw [this]; exact .nil
        · refine ⟨(Array.range (c * te.size)).map fun i => z.cells[i % z.cells.size]!, ?_, ?_⟩
          · simp [execOp, ho, Instr.makeSlice, hd, ex, ey, asInt, asIntOf, hi, wl, wc, hbig, hlc, hcl, hc0, hsz, hn, newRow, hz]
          · have hsz2 : z.cells = te.zero.toArray := by apply Array.ext'; simpa using hz1
            have hlen : te.zero.length = te.size := k10
            have := zeros_eq te.zero c (by rw [hlen]; rcases Nat.eq_zero_or_pos te.size with e | e
                                           · rw [e] at hn; simp at hn
                                           · exact e)
            rw [hsz2, ← hlen]
            simp only [List.size_toArray]
            rw [this, repL_eq]
            exact (base_rel ι k11).rep c
      obtain ⟨cs, f1, f2⟩ := key
      refine ⟨0, .cells cs ti.elem (0, 0), _, f1, cells_newE hE ti.elem f2, by simp, fun m => ?_⟩
      have hcap : capC (Nat.mul 2 c) 0 = c := by
        have := capC_of c 0 0 false
        simpa [capOf] using this
      have := BR.sl (ι := add ι m (w.heap.size, 0)) (b := m) (o := 0) (l := l) (c := Nat.mul 2 c) (add_same _ _ _) (by show l ≤ (2 * c) / 2; omega)
      rw [hcap] at this
      exact .base this
    · cases h3
  · cases h3

theorem new_buildSlice (lay : Lay) (hL : LayOK P lay) (t : TypeId) (len : Nat) (parts : Array (Nat × Operand)) (ti te : TI) (hti : lay t = some ti) (hte : lay ti.elem = some te) (hk : ti.kind = 4)
    (hlen : len * te.size ≤ 65536) (ho : o.op = .buildSlice t len parts) {H : AH} {q : AOut} {H' : AH}
    (h : buildSliceA H len (repL te.zero len) ti.elem (evps ρ (pElems te.size parts.toList)) = some (q, H')) : ∃ k mk, q = .val (mk H.next) ∧ H' = H.new k ∧ NewOK P a o ι w k mk := by
  cases hps : evps ρ (pElems te.size parts.toList) with
  | none => rw [hps] at h; cases h
  | some ps =>
    rw [hps] at h
    change Option.rec none (fun cs => newOut H (.slice (some ⟨H.next, 0, none⟩) len (Nat.mul 2 len)) (.cells cs ti.elem false)) (fillA (repL te.zero len) ps) = some (q, H') at h
    cases hf : fillA (repL te.zero len) ps with
    | none => rw [hf] at h; cases h
    | some l =>
      rw [hf] at h
      change newOut H (.slice (some ⟨H.next, 0, none⟩) len (Nat.mul 2 len)) (.cells l ti.elem false) = some (q, H') at h
      unfold newOut at h
      injection h with h; injection h with h1 h2; subst h1; subst h2
      refine ⟨_, fun m => .slice (some ⟨m, 0, none⟩) len (Nat.mul 2 len), rfl, rfl, ?_⟩
      have hT := hL _ te hte
      obtain ⟨d, hd, hD, _⟩ := (hL t ti hti).run_underlying w
      have := hD.2.2.2.1 hk; subst this
      obtain ⟨z, hz, hz1, _⟩ := hT.run_zero w
      obtain ⟨i0, d0, z0, k1, k2, k3, k4, k5, k6, k7, k8, k9, k10, k11, k12⟩ := hT.ok
      have hsz := hT.run_size w
      have hall := evps_elems (a := a) hE te.size parts.toList ps hps
      have e1 : (Array.map (fun p => (p.1, a.eval p.2)) parts).toList = parts.toList.map fun p => (p.1, a.eval p.2) := by simp
      have hbig : ¬ (len * te.size > 2 ^ 24) := by omega
      have key : ∃ c : Array Value, (execOp a.eval o).run P w = .ok (.value (.slice (some ⟨w.heap.size, 0, none⟩) len len)) { w with heap := w.heap.push (.cells c ti.elem (0, 0)) } ∧ All2 (SR ι) l c.toList := by
        by_cases hn : len * te.size = 0
        · have h0 : repL te.zero len = [] := by
            rw [repL_eq]
            rcases Nat.mul_eq_zero.1 hn with e | e
            · subst e; rfl
            · have : te.zero = [] := by apply List.eq_nil_of_length_eq_zero; omega
              rw [this]; simp
          obtain ⟨l', f1, f2⟩ := fill_ok (ι := ι) (fun i => some (i * te.size, te.size)) _ _ _ _ #[] (hall.mono fun p q r => ⟨by rw [← r.1], r.2⟩) hf (by rw [h0]; exact .nil)
          refine ⟨l', ?_, f2⟩
          simp only [execOp, ho, Instr.buildSlice, Sem.run_bind, hd, Result.andThen_ok, hsz, hbig, if_false, hn, if_true, Sem.run_pure, e1, range0]
          simp [f1, newRow]
        · have hsz2 : z.cells = te.zero.toArray := by apply Array.ext'; simpa using hz1
          have hpos : 0 < te.zero.length := by
            rw [k10]; rcases Nat.eq_zero_or_pos te.size with e | e
            · rw [e] at hn; simp at hn
            · exact e
          have hz3 := zeros_eq te.zero len hpos
          obtain ⟨l', f1, f2⟩ := fill_ok (ι := ι) (fun i => some (i * te.size, te.size)) _ _ _ _ ((Array.range (len * te.size)).map fun i => z.cells[i % z.cells.size]!) (hall.mono fun p q r => ⟨by rw [← r.1], r.2⟩) hf (by
            rw [hsz2, ← k10]; simp only [List.size_toArray]
            rw [hz3, repL_eq]; exact (base_rel ι k11).rep len)
          refine ⟨l', ?_, f2⟩
          simp only [execOp, ho, Instr.buildSlice, Sem.run_bind, hd, Result.andThen_ok, hsz, hbig, if_false, hn, hz, Sem.run_pure, e1]
          simp only [f1, newRow, Sem.run_bind, run_newObj, Result.andThen_ok, Sem.run_pure]
      obtain ⟨c, f1, f2⟩ := key
      refine ⟨0, .cells c ti.elem (0, 0), _, f1, cells_newE hE ti.elem f2, by simp, fun m => ?_⟩
      have hcap : capC (Nat.mul 2 len) 0 = len := by
        have := capC_of len 0 0 false
        simpa [capOf] using this
      have := BR.sl (ι := add ι m (w.heap.size, 0)) (b := m) (o := 0) (l := len) (c := Nat.mul 2 len) (add_same _ _ _) (by show len ≤ (2 * len) / 2; omega)
      rw [hcap] at this
      exact .base this

omit hE in
theorem cls_withT {lay : Lay} {t : TypeId} {k : TI → AOp} (h : ∀ ti, clsOf (k ti) ≠ 2) : clsOf (withT lay t k) ≠ 2 := by
  unfold withT
  cases lay t with
  | none => exact (by decide : clsOf AOp.bad ≠ 2)
  | some ti => exact h ti
omit hE in
theorem cls_cnd {c : Bool} {x y : AOp} (h : clsOf x ≠ 2) (h' : clsOf y ≠ 2) : clsOf (cnd c x y) ≠ 2 := by
  cases c
  · exact h'
  · exact h
theorem new_ok (lay : Lay) (hL : LayOK P lay) (hc : clsOf (pOp lay o.op) = 2) {m : Nat} {q : AOut} {H' : AH} (h : opA ρ ⟨m, .nil⟩ (pOp lay o.op) = some (q, H')) :
    ∃ k mk, q = .val (mk m) ∧ H'.get m = some k ∧ NewOK P a o ι w k mk := by
  have hg : ∀ k, (AH.new ⟨m, .nil⟩ k).get m = some k := fun k => by rw [AH.get_new]; simp
  cases ho : o.op with
  | alloc t =>
    rw [ho] at h
    obtain ⟨ti, hti, h1⟩ := withT_some (show opA ρ _ (withT lay t _) = _ from h)
    obtain ⟨hc, h2⟩ := cndOp h1
    change newOut _ (.pointer (some ⟨m, 0, none⟩)) (.cells ti.zero t false) = some (q, H') at h2
    unfold newOut at h2
    injection h2 with h2; injection h2 with h2 h3; subst h2; subst h3
    exact ⟨_, _, rfl, hg _, new_alloc hE lay hL t ti hti ho⟩
  | box t x =>
    rw [ho] at h
    obtain ⟨k, mk, h1, rfl, h3⟩ := new_box (w := w) hE t x ho h
    exact ⟨k, mk, h1, hg _, h3⟩
  | buildSlice t len parts =>
    rw [ho] at h
    obtain ⟨ti, hti, h1⟩ := withT_some (show opA ρ _ (withT lay t _) = _ from h)
    obtain ⟨te, hte, h1⟩ := withT_some h1
    obtain ⟨hc, h2⟩ := cndOp h1
    simp only [Bool.and_eq_true, Nat.ble_eq] at hc
    obtain ⟨k, mk, g1, rfl, h3⟩ := new_buildSlice (w := w) hE lay hL t len parts ti te hti hte (by simpa using hc.1) hc.2 ho h2
    exact ⟨k, mk, g1, hg _, h3⟩
  | makeMap t r =>
    rw [ho] at h
    cases r with
    | some _ => cases h
    | none =>
      change newOut _ (.map (some m)) (.map []) = some (q, H') at h
      unfold newOut at h
      injection h with h; injection h with h2 h3; subst h2; subst h3
      exact ⟨_, fun m => .map (some m), rfl, hg _, new_makeMap hE t ho⟩
  | makeSlice t l c =>
    rw [ho] at h
    obtain ⟨ti, hti, h1⟩ := withT_some (show opA ρ _ (withT lay t _) = _ from h)
    obtain ⟨te, hte, h1⟩ := withT_some h1
    obtain ⟨hc, h2⟩ := cndOp h1
    obtain ⟨k, mk, g1, rfl, h3⟩ := new_makeSlice (w := w) hE lay hL t l c ti te hti hte (by simpa using hc) ho h2
    exact ⟨k, mk, g1, hg _, h3⟩
  | binOp op t x y yt =>
    rw [ho] at hc
    exact absurd hc (cls_withT fun ti => cls_cnd (cls_withT fun te => by simp [clsOf]) (by simp [clsOf]))
  | convert s d x =>
    rw [ho] at hc
    exact absurd hc (cls_withT fun ti => cls_withT fun te => cls_cnd (by simp [clsOf]) (cls_cnd (by simp [clsOf]) (cls_cnd (cls_withT fun _ => cls_cnd (by simp [clsOf]) (by simp [clsOf])) (by simp [clsOf]))))
  | build t parts =>
    rw [ho] at hc
    refine absurd hc (cls_withT fun ti => cls_cnd ?_ (cls_cnd (cls_withT fun te => by simp [clsOf]) (by simp [clsOf])))
    cases pParts ti.flds parts.toList <;> simp [clsOf]
  | load t x => rw [ho] at hc; exact absurd hc (cls_withT fun ti => by simp [clsOf])
  | store t x y => rw [ho] at hc; exact absurd hc (cls_withT fun ti => by simp [clsOf])
  | slice t x lo hi mx =>
    rw [ho] at hc
    exact absurd hc (cls_withT fun ti => cls_cnd (by simp [clsOf]) (cls_cnd (cls_withT fun _ => by simp [clsOf]) (cls_cnd (cls_withT fun _ => by simp [clsOf]) (by simp [clsOf]))))
  | fieldAddr t x f =>
    rw [ho] at hc
    refine absurd hc (cls_withT fun ti => cls_cnd ?_ (by simp [clsOf]))
    cases nthL ti.flds f with
    | none => simp [clsOf]
    | some q => exact cls_cnd (cls_cnd (by simp [clsOf]) (by simp [clsOf])) (by simp [clsOf])
  | field t x f =>
    rw [ho] at hc
    refine absurd hc (cls_withT fun ti => cls_cnd ?_ (by simp [clsOf]))
    cases nthL ti.flds f with
    | none => simp [clsOf]
    | some q => exact cls_cnd (cls_cnd (by simp [clsOf]) (by simp [clsOf])) (by simp [clsOf])
  | indexAddr t x i =>
    rw [ho] at hc
    exact absurd hc (cls_withT fun ti => cls_withT fun te => cls_cnd (by simp [clsOf]) (cls_cnd (by simp [clsOf]) (by simp [clsOf])))
  | index t x i =>
    rw [ho] at hc
    exact absurd hc (cls_withT fun ti => cls_cnd (by simp [clsOf]) (cls_cnd (cls_withT fun te => by simp [clsOf]) (by simp [clsOf])))
  | lookup t m k ok =>
    rw [ho] at hc
    refine absurd hc (cls_withT fun ti => cls_withT fun te => cls_withT fun tk => cls_cnd ?_ (by simp [clsOf]))
    cases zeroOf te <;> simp [clsOf]
  | mapUpdate t m k x =>
    rw [ho] at hc
    exact absurd hc (cls_withT fun ti => cls_withT fun tk => cls_cnd (by simp [clsOf]) (by simp [clsOf]))
  | call c =>
    rw [ho] at hc
    refine absurd hc ?_
    show clsOf (pCall lay c) ≠ 2
    unfold pCall
    split
    · simp [clsOf]
    · simp [clsOf]
    · simp [clsOf]
    · split
      · exact cls_withT fun _ => by simp [clsOf]
      · exact cls_withT fun _ => cls_cnd (by simp [clsOf]) (by simp [clsOf])
      · exact cls_withT fun _ => cls_withT fun _ => cls_withT fun _ => cls_cnd (by simp [clsOf]) (by simp [clsOf])
      · exact cls_withT fun _ => cls_withT fun _ => cls_cnd (by simp [clsOf]) (by simp [clsOf])
      · exact cls_withT fun _ => cls_withT fun _ => cls_cnd (by simp [clsOf]) (by simp [clsOf])
      · simp [clsOf]
      · simp [clsOf]
      · simp [clsOf]
  | _ => rw [ho] at hc; exact absurd hc (by simp [pOp, clsOf])
end
end Go.Rem
