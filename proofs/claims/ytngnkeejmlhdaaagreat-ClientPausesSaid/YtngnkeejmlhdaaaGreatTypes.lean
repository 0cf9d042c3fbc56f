/- Types. Texts joined by program (asm.py): RemLay2. -/
import Derived.Test.YtngnkeejmlhdaaaGreatDraws
import Derived.DeepKeys3
set_option linter.all false
/-! Structs and arrays whose cells tell all. -/
namespace Go.Rem

def kindV : Value → Option Nat
  | .bool _ => some 8
  | .int k _ => some (ikN k)
  | .string _ => some 9
  | _ => none
def likeK (ks : List Nat) (vs : List Value) : Prop := vs.map kindV = ks.map some
theorem likeK_len {ks : List Nat} {vs : List Value} (h : likeK ks vs) : vs.length = ks.length := by
  have := congrArg List.length h; simpa using this
theorem likeK_append {a b : List Nat} {xs : List Value} (h : likeK (a ++ b) xs) : ∃ x y, xs = x ++ y ∧ likeK a x ∧ likeK b y := by
  refine ⟨xs.take a.length, xs.drop a.length, (List.take_append_drop _ _).symm, ?_, ?_⟩
  · unfold likeK at h ⊢; rw [List.map_take, h]; simp
  · unfold likeK at h ⊢; rw [List.map_drop, h]; simp

noncomputable def flatFs (f : TypeId → Option (List Nat)) (P : Program) : Nat → List Field → Option (List Nat)
  | _, [] => some []
  | at_, F :: fs => if F.name = "_" ∨ F.offset ≠ at_ then none else match f F.type with
    | none => none
    | some l => if l.length = P.cellsOf F.type then (match flatFs f P (at_ + l.length) fs with | some r => some (l ++ r) | none => none) else none
noncomputable def flatK (P : Program) : Nat → TypeId → Option (List Nat)
  | 0, _ => none
  | d + 1, t => match P.underlying t with
    | some .bool => some [8]
    | some (.int k) => some [ikN k]
    | some .string => some [9]
    | some (.array n e) => match flatK P d e with
      | some l => if l.length = P.cellsOf e then some (List.replicate n l).flatten else none
      | none => none
    | some (.struct fs) => if P.stoodInHeld t = true then none else flatFs (flatK P d) P 0 fs.toList
    | _ => none

/-- a value of some cells -/
def RepV (P : Program) (t : TypeId) (xs : List Value) (v : Value) : Prop :=
  match P.underlying t with
  | some (.array ..) | some (.struct _) => v = .agg xs.toArray
  | _ => xs = [v]

theorem kindV_bool {v : Value} (h : kindV v = some 8) : ∃ b, v = .bool b := by
  cases v <;> simp [kindV] at h <;> first | exact ⟨_, rfl⟩ | skip
  all_goals (rename_i k _; cases k <;> simp [ikN] at h)
theorem kindV_int {v : Value} {k : IntKind} (h : kindV v = some (ikN k)) : ∃ n, v = .int k n := by
  cases v <;> simp [kindV] at h
  · cases k <;> simp [ikN] at h
  · next j n => exact ⟨n, by rw [ikN_inj (j := j) (k := k) (by simpa using h)]⟩
  · cases k <;> simp [ikN] at h
theorem kindV_str {v : Value} (h : kindV v = some 9) : ∃ s, v = .string s := by
  cases v <;> simp [kindV] at h <;> first | exact ⟨_, rfl⟩ | skip
  all_goals (rename_i k _; cases k <;> simp [ikN] at h)

theorem valsEq_split : ∀ {a b a' b' : List Value} {r : Bool}, a.length = a'.length → valsEq (a ++ b) (a' ++ b') = some r →
    ∃ r1 r2, valsEq a a' = some r1 ∧ valsEq b b' = some r2 ∧ r = (r1 && r2) := by
  intro a
  induction a with
  | nil =>
    intro b a' b' r hl h
    cases a' with
    | nil => exact ⟨true, r, rfl, h, by simp⟩
    | cons _ _ => simp at hl
  | cons x a ih =>
    intro b a' b' r hl h
    cases a' with
    | nil => simp at hl
    | cons y a' =>
      change Option.rec none (fun t => Option.rec none (fun u => some (cnd t u false)) (valsEq (a ++ b) (a' ++ b'))) (valEq x y) = some r at h
      cases hx : valEq x y with
      | none => rw [hx] at h; cases h
      | some t =>
        rw [hx] at h
        change Option.rec none (fun u => some (cnd t u false)) (valsEq (a ++ b) (a' ++ b')) = some r at h
        cases hu : valsEq (a ++ b) (a' ++ b') with
        | none => rw [hu] at h; cases h
        | some u =>
          rw [hu] at h
          have h : cnd t u false = r := by injection h
          obtain ⟨r1, r2, e1, e2, e3⟩ := ih (by simpa using hl) hu
          refine ⟨cnd t r1 false, r2, ?_, e2, ?_⟩
          · show @Option.rec _ (fun _ => Option Bool) none (fun t => Option.rec none (fun u => some (cnd t u false)) (valsEq a a')) (valEq x y) = _
            rw [hx, e1]
          · rw [← h, e3]; cases t <;> rfl
theorem valsEq_one {x y : Value} {r : Bool} (h : valsEq [x] [y] = some r) : valEq x y = some r := by
  change Option.rec none (fun t => some (cnd t true false)) (valEq x y) = some r at h
  cases hx : valEq x y with
  | none => rw [hx] at h; cases h
  | some t => rw [hx] at h; cases t <;> exact h

section
variable {P : Program}
theorem part_rep {t : TypeId} {d : TypeDesc} (hu : P.underlying t = some d) {l : List Nat} (hl : l.length = P.cellsOf t) {cs : Array Value} {pre xs post : List Value} (hcs : cs.toList = pre ++ (xs ++ post)) (hx : likeK l xs)
    (hs : (∃ k, l = [k]) ∨ (∃ n e, d = .array n e) ∨ ∃ fs, d = .struct fs) (w : World) : ∃ v, (part t cs pre.length).run P w = .ok v w ∧ RepV P t xs v := by
  obtain ⟨i, hi⟩ := info_of_underlying hu
  have hlen := likeK_len hx
  have hag : (∃ n e, d = .array n e) ∨ (∃ fs, d = .struct fs) → ∃ v, (part t cs pre.length).run P w = .ok v w ∧ RepV P t xs v := by
    intro hd
    refine ⟨.agg (cs.extract pre.length (pre.length + P.cellsOf t)), ?_, ?_⟩
    · rcases hd with ⟨n, e, rfl⟩ | ⟨fs, rfl⟩ <;> simp [part, isAgg, run_underlying hu, run_sizeOf w hi]
    · have : cs.extract pre.length (pre.length + P.cellsOf t) = xs.toArray := by
        apply Array.ext'
        rw [Array.toList_extract, hcs, ← hl, ← hlen]
        simp [List.extract]
      unfold RepV
      rcases hd with ⟨n, e, rfl⟩ | ⟨fs, rfl⟩ <;> simp [hu, this]
  by_cases hd : (∃ n e, d = .array n e) ∨ (∃ fs, d = .struct fs)
  · exact hag hd
  · have hone : ∃ k, l = [k] := hs.resolve_right hd
    obtain ⟨k, rfl⟩ := hone
    obtain ⟨v, rfl⟩ : ∃ v, xs = [v] := by
      cases xs with
      | nil => simp at hlen
      | cons v xs => cases xs with
        | nil => exact ⟨v, rfl⟩
        | cons _ _ => simp at hlen
    refine ⟨v, ?_, ?_⟩
    · have hg : cs[pre.length]? = some v := by rw [← Array.getElem?_toList, hcs]; simp
      have hna : (isAgg t).run P w = .ok false w := by
        unfold isAgg
        cases d <;> simp [run_underlying hu]
        · exact hd (.inl ⟨_, _, rfl⟩)
        · exact hd (.inr ⟨_, rfl⟩)
      simp [part, hna, hg]
    · unfold RepV
      rw [hu]
      cases d <;> first | rfl | (exact absurd (.inl ⟨_, _, rfl⟩) hd) | (exact absurd (.inr ⟨_, rfl⟩) hd)

theorem flatK_shape {d : Nat} {t : TypeId} {l : List Nat} (h : flatK P d t = some l) : ∃ D, P.underlying t = some D ∧ ((∃ k, l = [k]) ∨ (∃ n e, D = .array n e) ∨ ∃ fs, D = .struct fs) := by
  cases d with
  | zero => cases h
  | succ d =>
    unfold flatK at h
    split at h
    · next hu => injection h with h; exact ⟨_, hu, .inl ⟨_, h.symm⟩⟩
    · next hu => injection h with h; exact ⟨_, hu, .inl ⟨_, h.symm⟩⟩
    · next hu => injection h with h; exact ⟨_, hu, .inl ⟨_, h.symm⟩⟩
    · next hu => exact ⟨_, hu, .inr (.inl ⟨_, _, rfl⟩)⟩
    · next hu => exact ⟨_, hu, .inr (.inr ⟨_, rfl⟩)⟩
    · cases h

theorem flatFs_cons {f : TypeId → Option (List Nat)} {at_ : Nat} {F : Field} {fs : List Field} {ks : List Nat} (h : flatFs f P at_ (F :: fs) = some ks) :
    F.name ≠ "_" ∧ F.offset = at_ ∧ ∃ l r, f F.type = some l ∧ l.length = P.cellsOf F.type ∧ flatFs f P (at_ + l.length) fs = some r ∧ ks = l ++ r := by
  unfold flatFs at h
  split at h
  · cases h
  · next hn =>
    simp only [not_or, Decidable.not_not] at hn
    split at h
    · cases h
    · next l hl =>
      split at h
      · next hlen =>
        split at h
        · next r hr => injection h with h; exact ⟨hn.1, hn.2, l, r, hl, hlen, hr, h.symm⟩
        · cases h
      · cases h

/-- sameness -/
theorem equal_flat : ∀ (d : Nat) (t : TypeId) (l : List Nat), flatK P d t = some l → ∀ n, d ≤ n → ∀ (xs ys : List Value) (x y : Value) (r : Bool) (w : World), likeK l xs → likeK l ys → RepV P t xs x → RepV P t ys y →
    valsEq xs ys = some r → (Op.equalIn n t x y).run P w = .ok r w := by
  intro d
  induction d with
  | zero => intro t l h; cases h
  | succ d ih =>
    intro t l h n hn xs ys x y r w lx ly rx ry hv
    obtain ⟨n, rfl⟩ : ∃ m, n = m + 1 := ⟨n - 1, by omega⟩
    have hn' : d ≤ n := by omega
    unfold flatK at h
    split at h
    · next hu =>
      injection h with h; subst h
      unfold RepV at rx ry; rw [hu] at rx ry
      simp only at rx ry; subst rx; subst ry
      obtain ⟨a, rfl⟩ := kindV_bool (by simpa [likeK] using lx)
      obtain ⟨b, rfl⟩ := kindV_bool (by simpa [likeK] using ly)
      have := valsEq_one hv
      injection this with this; subst this
      exact run_equalIn_bool' w n t a b hu
    · next k hu =>
      injection h with h; subst h
      unfold RepV at rx ry; rw [hu] at rx ry
      simp only at rx ry; subst rx; subst ry
      obtain ⟨a, rfl⟩ := kindV_int (k := k) (by simpa [likeK] using lx)
      obtain ⟨b, rfl⟩ := kindV_int (k := k) (by simpa [likeK] using ly)
      have := valsEq_one hv
      obtain ⟨_, h2⟩ := cnd_some (show cnd (Nat.beq (ikN k) (ikN k)) (some (eqF a b)) none = some r from this)
      injection h2 with h2
      rw [eqF_eq] at h2; rw [← h2]
      exact run_equalIn_int w n t k k a b hu
    · next hu =>
      injection h with h; subst h
      unfold RepV at rx ry; rw [hu] at rx ry
      simp only at rx ry; subst rx; subst ry
      obtain ⟨a, rfl⟩ := kindV_str (by simpa [likeK] using lx)
      obtain ⟨b, rfl⟩ := kindV_str (by simpa [likeK] using ly)
      have := valsEq_one hv
      injection this with this; rw [← this, strL_inj]
      exact run_equalIn_string w n t a b hu
    · next m e hu =>
      split at h
      · next le hle =>
        split at h
        · next hlen =>
          injection h with h; subst h
          unfold RepV at rx ry; rw [hu] at rx ry
          simp only at rx ry; subst rx; subst ry
          obtain ⟨De, hue, hsh⟩ := flatK_shape hle
          obtain ⟨i, hi⟩ := info_of_underlying hue
          rw [run_equalIn_array w n _ _ hu hi, List.range_eq_range']
          have key : ∀ (m s : Nat) (pre qre xs ys : List Value) (r : Bool) (cs ds : Array Value), cs.toList = pre ++ xs → ds.toList = qre ++ ys → pre.length = s * P.cellsOf e → qre.length = s * P.cellsOf e →
              likeK (List.replicate m le).flatten xs → likeK (List.replicate m le).flatten ys → valsEq xs ys = some r → (Op.eqItems n e (P.cellsOf e) cs ds (List.range' s m)).run P w = .ok r w := by
            intro m
            induction m with
            | zero =>
              intro s pre qre xs ys r cs ds _ _ _ _ lx ly hv
              have hx : xs = [] := by have := likeK_len lx; simpa using this
              have hy : ys = [] := by have := likeK_len ly; simpa using this
              subst hx; subst hy
              injection hv with hv; subst hv
              simp [Op.eqItems]
            | succ m ihm =>
              intro s pre qre xs ys r cs ds hc hd hp hq lx ly hv
              rw [List.replicate_succ, List.flatten_cons] at lx ly
              obtain ⟨x1, x2, rfl, lx1, lx2⟩ := likeK_append lx
              obtain ⟨y1, y2, rfl, ly1, ly2⟩ := likeK_append ly
              have l1 := likeK_len lx1
              have l2 := likeK_len ly1
              obtain ⟨r1, r2, hv1, hv2, rfl⟩ := valsEq_split (by rw [l1, l2]) hv
              obtain ⟨u, p1, q1⟩ := part_rep hue hlen hc lx1 hsh w
              obtain ⟨v, p2, q2⟩ := part_rep hue hlen hd ly1 hsh w
              rw [hp] at p1; rw [hq] at p2
              have p3 := ih e le hle n hn' x1 y1 u v r1 w lx1 ly1 q1 q2 hv1
              have p4 := ihm (s + 1) (pre ++ x1) (qre ++ y1) x2 y2 r2 cs ds (by rw [hc]; simp) (by rw [hd]; simp) (by rw [List.length_append, hp, l1, hlen, Nat.succ_mul]) (by rw [List.length_append, hq, l2, hlen, Nat.succ_mul]) lx2 ly2 hv2
              rw [List.range'_succ]
              simp only [Op.eqItems, Sem.run_bind, p1, p2, p3, Result.andThen_ok]
              cases r1
              · simp
              · simpa using p4
          exact key m 0 [] [] xs ys r _ _ (by simp) (by simp) (by simp) (by simp) lx ly hv
        · cases h
      · cases h
    · next fs hu =>
      split at h
      · cases h
      · next hst =>
        unfold RepV at rx ry; rw [hu] at rx ry
        simp only at rx ry; subst rx; subst ry
        have hfs : P.fieldsOf t = fs := by simp [Program.fieldsOf, hu]
        rw [run_equalIn_struct w n t _ _ (by rw [hfs]; exact hu) (by simpa using hst), hfs]
        have key : ∀ (fs : List Field) (at_ : Nat) (ks : List Nat) (pre qre xs ys : List Value) (r : Bool) (cs ds : Array Value), flatFs (flatK P d) P at_ fs = some ks → cs.toList = pre ++ xs → ds.toList = qre ++ ys →
            pre.length = at_ → qre.length = at_ → likeK ks xs → likeK ks ys → valsEq xs ys = some r → (Op.eqFields n cs ds fs).run P w = .ok r w := by
          intro fs
          induction fs with
          | nil =>
            intro at_ ks pre qre xs ys r cs ds hk _ _ _ _ lx ly hv
            unfold flatFs at hk; injection hk with hk; subst hk
            have hx : xs = [] := by have := likeK_len lx; simpa using this
            have hy : ys = [] := by have := likeK_len ly; simpa using this
            subst hx; subst hy
            injection hv with hv; subst hv
            simp [Op.eqFields]
          | cons F fs ihf =>
            intro at_ ks pre qre xs ys r cs ds hk hc hd hp hq lx ly hv
            obtain ⟨g1, g2, le, lr, g3, g4, g5, rfl⟩ := flatFs_cons hk
            obtain ⟨x1, x2, rfl, lx1, lx2⟩ := likeK_append lx
            obtain ⟨y1, y2, rfl, ly1, ly2⟩ := likeK_append ly
            have l1 := likeK_len lx1
            have l2 := likeK_len ly1
            obtain ⟨De, hue, hsh⟩ := flatK_shape g3
            obtain ⟨r1, r2, hv1, hv2, rfl⟩ := valsEq_split (by rw [l1, l2]) hv
            obtain ⟨u, p1, q1⟩ := part_rep hue g4 hc lx1 hsh w
            obtain ⟨v, p2, q2⟩ := part_rep hue g4 hd ly1 hsh w
            rw [hp, ← g2] at p1; rw [hq, ← g2] at p2
            have p3 := ih F.type le g3 n hn' x1 y1 u v r1 w lx1 ly1 q1 q2 hv1
            have p4 := ihf (at_ + le.length) lr (pre ++ x1) (qre ++ y1) x2 y2 r2 cs ds g5 (by rw [hc]; simp) (by rw [hd]; simp) (by rw [List.length_append, hp, l1]) (by rw [List.length_append, hq, l2]) lx2 ly2 hv2
            simp only [Op.eqFields, g1, ne_eq, not_false_eq_true, if_true, Sem.run_bind, p1, p2, p3, Result.andThen_ok]
            cases r1
            · simp
            · simpa using p4
        exact key fs.toList 0 l [] [] xs ys r _ _ h (by simp) (by simp) rfl rfl lx ly hv
    · cases h

theorem check_flat (em : Bool) : ∀ (d : Nat) (t : TypeId) (l : List Nat), flatK P d t = some l → ∀ n, d ≤ n → ∀ (xs : List Value) (x : Value) (w : World), likeK l xs → RepV P t xs x →
    (Instr.checkKey em n t x).run P w = .ok () w := by
  intro d
  induction d with
  | zero => intro t l h; cases h
  | succ d ih =>
    intro t l h n hn xs x w lx rx
    obtain ⟨n, rfl⟩ : ∃ m, n = m + 1 := ⟨n - 1, by omega⟩
    have hn' : d ≤ n := by omega
    unfold flatK at h
    split at h
    · next hu =>
      rw [Instr.checkKey]
      simp [run_underlying hu]
    · next k hu =>
      rw [Instr.checkKey]
      simp [run_underlying hu]
    · next hu =>
      rw [Instr.checkKey]
      simp [run_underlying hu]
    · next m e hu =>
      split at h
      · next le hle =>
        split at h
        · next hlen =>
          injection h with h; subst h
          unfold RepV at rx; rw [hu] at rx
          simp only at rx; subst rx
          obtain ⟨De, hue, hsh⟩ := flatK_shape hle
          obtain ⟨i, hi⟩ := info_of_underlying hue
          rw [Instr.checkKey]
          simp only [Sem.run_bind, run_underlying hu, Result.andThen_ok]
          simp only [Std.Legacy.Range.forIn_eq_forIn_range', Std.Legacy.Range.size, Nat.sub_zero, Nat.add_one_sub_one, Nat.div_one]
          have key : ∀ (m s : Nat) (pre xs : List Value) (cs : Array Value), cs.toList = pre ++ xs → pre.length = s * P.cellsOf e → likeK (List.replicate m le).flatten xs →
              (forIn (List.range' s m) PUnit.unit fun i r => do
                let x ← sizeOf e
                let x ← part e cs (i * x)
                Instr.checkKey em n e x
                pure (ForInStep.yield PUnit.unit)).run P w = .ok PUnit.unit w := by
            intro m
            induction m with
            | zero => intro s pre xs cs _ _ _; simp
            | succ m ihm =>
              intro s pre xs cs hc hp lx
              rw [List.replicate_succ, List.flatten_cons] at lx
              obtain ⟨x1, x2, rfl, lx1, lx2⟩ := likeK_append lx
              have l1 := likeK_len lx1
              obtain ⟨u, p1, q1⟩ := part_rep hue hlen hc lx1 hsh w
              rw [hp] at p1
              have p3 := ih e le hle n hn' x1 u w lx1 q1
              have p4 := ihm (s + 1) (pre ++ x1) x2 cs (by rw [hc]; simp) (by rw [List.length_append, hp, l1, hlen, Nat.succ_mul]) lx2
              rw [List.range'_succ]
              simp only [List.forIn_cons, Sem.run_bind, run_sizeOf w hi, Result.andThen_ok, p1, p3, Sem.run_pure]
              exact p4
          have := key m 0 [] xs xs.toArray (by simp) (by simp) lx
          rw [this]; rfl
        · cases h
      · cases h
    · next fs hu =>
      split at h
      · cases h
      · next hst =>
        unfold RepV at rx; rw [hu] at rx
        simp only at rx; subst rx
        rw [Instr.checkKey]
        simp only [Sem.run_bind, run_underlying hu, Result.andThen_ok]
        rw [← Array.forIn_toList]
        generalize hL : fs.toList = L at h
        have key : ∀ (L : List Field) (at_ : Nat) (ks : List Nat) (pre xs : List Value) (cs : Array Value), flatFs (flatK P d) P at_ L = some ks → cs.toList = pre ++ xs → pre.length = at_ → likeK ks xs →
            (forIn (m := Sem) L PUnit.unit fun (f : Field) (_ : PUnit) => if f.name ≠ "_" then (do
                let x ← part f.type cs f.offset
                Instr.checkKey em n f.type x
                pure (ForInStep.yield PUnit.unit) : Sem (ForInStep PUnit)) else pure (ForInStep.yield PUnit.unit)).run P w = .ok PUnit.unit w := by
          intro L
          induction L with
          | nil => intro _ _ _ _ _ _ _ _ _; simp
          | cons F L ihf =>
            intro at_ ks pre xs cs hk hc hp lx
            obtain ⟨g1, g2, le, lr, g3, g4, g5, rfl⟩ := flatFs_cons hk
            obtain ⟨x1, x2, rfl, lx1, lx2⟩ := likeK_append lx
            have l1 := likeK_len lx1
            obtain ⟨De, hue, hsh⟩ := flatK_shape g3
            obtain ⟨u, p1, q1⟩ := part_rep hue g4 hc lx1 hsh w
            rw [hp, ← g2] at p1
            have p3 := ih F.type le g3 n hn' x1 u w lx1 q1
            have p4 := ihf (at_ + le.length) lr (pre ++ x1) x2 cs g5 (by rw [hc]; simp) (by rw [List.length_append, hp, l1]) lx2
            simp only [List.forIn_cons, Sem.run_bind, g1, ne_eq, not_false_eq_true, if_true, Result.andThen_ok, p1, p3, Sem.run_pure]
            exact p4
        have := key L 0 l [] xs xs.toArray h (by simp) rfl lx
        rw [this]; rfl
    · cases h
end

/-! ### what is known of a type, checked -/
theorem likeV_kind {z v : Value} {k : Nat} (h : likeV z v = true) (hz : kindV z = some k) : kindV v = some k := by
  unfold likeV at h
  split at h
  · split at h
    · exact hz
    · cases h
  · split at h
    · simp only [kindV] at hz ⊢
      rw [← ikN_inj h]; exact hz
    · cases h
  · split at h
    · exact hz
    · cases h
  · cases h
theorem likeL_kind : ∀ {zs vs : List Value} {ks : List Nat}, likeL zs vs = true → likeK ks zs → likeK ks vs := by
  intro zs
  induction zs with
  | nil => intro vs ks h hk; cases vs with
    | nil => exact hk
    | cons _ _ => cases h
  | cons z zs ih => intro vs ks h hk; cases vs with
    | nil => cases h
    | cons v vs =>
      change cnd (likeV z v) (likeL zs vs) false = true at h
      rw [cnd_eq] at h
      split at h
      · next h1 =>
        cases ks with
        | nil => simp [likeK] at hk
        | cons k ks =>
          simp only [likeK, List.map_cons, List.cons.injEq] at hk ⊢
          exact ⟨likeV_kind h1 hk.1, ih h hk.2⟩
      · cases h
theorem valsEq_kind : ∀ {as bs : List Value} {ks : List Nat} {r : Bool}, valsEq as bs = some r → likeK ks as → likeK ks bs := by
  intro as
  induction as with
  | nil => intro bs ks r h hk; cases bs with
    | nil => exact hk
    | cons _ _ => cases h
  | cons a as ih => intro bs ks r h hk; cases bs with
    | nil => cases h
    | cons b bs =>
      change Option.rec none (fun t => Option.rec none (fun u => some (cnd t u false)) (valsEq as bs)) (valEq a b) = some r at h
      cases hx : valEq a b with
      | none => rw [hx] at h; cases h
      | some t =>
        rw [hx] at h
        change Option.rec none (fun u => some (cnd t u false)) (valsEq as bs) = some r at h
        cases hu : valsEq as bs with
        | none => rw [hu] at h; cases h
        | some u =>
          cases ks with
          | nil => simp [likeK] at hk
          | cons k ks =>
            simp only [likeK, List.map_cons, List.cons.injEq] at hk ⊢
            refine ⟨?_, ih hu hk.2⟩
            rw [← hk.1]
            unfold valEq at hx
            split at hx
            · rfl
            · obtain ⟨h1, _⟩ := cnd_some hx
              simp only [kindV]; rw [ikN_inj h1]
            · rfl
            · cases hx

noncomputable def kindsB (ks : List Nat) (zs : List Value) : Bool := decide (zs.map kindV = ks.map some)
noncomputable def eqB (P : Program) (t : TypeId) (ti : TI) : Bool :=
  match flatK P 8 t with
  | some ks => !P.eqGuardType P.depth t && ti.agg && kindsB ks ti.zero
  | none => false
theorem eqB_ok {P : Program} {t : TypeId} {ti : TI} {d : TypeDesc} (hu : P.underlying t = some d) (ha : isAggD d = true) (h : eqB P t ti = true) : EqAgg P t ti.size ti.zero := by
  unfold eqB at h
  split at h
  · next ks hk =>
    simp only [Bool.and_eq_true, Bool.not_eq_true'] at h
    have hz : likeK ks ti.zero := of_decide_eq_true (p := ti.zero.map kindV = ks.map some) h.2
    have hrep : ∀ a : Array Value, RepV P t a.toList (.agg a) := by
      intro a
      unfold RepV
      rw [hu]
      cases d <;> simp [isAggD] at ha <;> rfl
    refine ⟨h.1.1, ?_, ?_⟩
    · intro a b r w _ _ hl hv
      have la := likeL_kind hl hz
      exact equal_flat 8 t ks hk 10000 (by decide) a.toList b.toList _ _ r w la (valsEq_kind hv la) (hrep a) (hrep b) hv
    · intro em a w _ hl
      exact check_flat em 8 t ks hk 10000 (by decide) a.toList _ w (likeL_kind hl hz) (hrep a)
  · cases h

def fldB (P : Program) (F : Field) (q : Nat × Nat × Bool) : Bool :=
  Nat.beq F.offset q.1 && (match P.info? F.type, P.underlying F.type with
    | some i, some df => Nat.beq i.size q.2.1 && (isAggD df == q.2.2)
    | _, _ => false)
def fldsB (P : Program) : List Field → List (Nat × Nat × Bool) → Bool
  | [], [] => true
  | F :: fs, q :: qs => fldB P F q && fldsB P fs qs
  | _, _ => false
theorem fldsB_ok {P : Program} : ∀ {fs : List Field} {qs : List (Nat × Nat × Bool)}, fldsB P fs qs = true → fs.length = qs.length ∧ ∀ (f : Nat) (q : Nat × Nat × Bool), qs[f]? = some q →
    ∃ F i df, fs[f]? = some F ∧ F.offset = q.1 ∧ P.info? F.type = some i ∧ i.size = q.2.1 ∧ P.underlying F.type = some df ∧ isAggD df = q.2.2 := by
  intro fs
  induction fs with
  | nil => intro qs h; cases qs with
    | nil => exact ⟨rfl, fun f q e => by simp at e⟩
    | cons _ _ => cases h
  | cons F fs ih => intro qs h; cases qs with
    | nil => cases h
    | cons q qs =>
      simp only [fldsB, Bool.and_eq_true] at h
      obtain ⟨e1, e2⟩ := ih h.2
      refine ⟨by simp [e1], fun f q' e => ?_⟩
      cases f with
      | zero =>
        simp at e; subst e
        have h1 := h.1
        unfold fldB at h1
        simp only [Bool.and_eq_true] at h1
        obtain ⟨g1, g2⟩ := h1
        split at g2
        · next i df hi hd =>
          simp only [Bool.and_eq_true, beq_iff_eq] at g2
          exact ⟨F, i, df, rfl, by simpa using g1, hi, by simpa using g2.1, hd, g2.2⟩
        · cases g2
      | succ f => exact e2 f q' (by simpa using e)
def descB (P : Program) (ti : TI) (d : TypeDesc) : Bool :=
  match ti.kind with
  | 1 => match d with | .int k => Nat.beq (ikN k) (ikN ti.ik) | _ => false
  | 2 => match d with | .string => true | _ => false
  | 3 => match d with | .bool => true | _ => false
  | 4 => match d with | .slice e => Nat.beq e ti.elem | _ => false
  | 5 => match d with | .array n e => Nat.beq n ti.aux && Nat.beq e ti.elem | _ => false
  | 6 => match d with | .struct fs => fldsB P fs.toList ti.flds | _ => false
  | 7 => match d with | .pointer e => Nat.beq e ti.elem | _ => false
  | 8 => match d with | .map k e => Nat.beq k ti.aux && Nat.beq e ti.elem | _ => false
  | _ => true
theorem descB_ok {P : Program} {ti : TI} {d : TypeDesc} (h : descB P ti d = true) : DescOK P ti d := by
  unfold descB at h
  refine ⟨?_, ?_, ?_, ?_, ?_, ?_, ?_, ?_⟩ <;> intro hk <;> rw [hk] at h <;> simp only at h <;> split at h <;> first | (cases h; done) | skip
  · rw [ikN_inj h]
  · rfl
  · rfl
  · next e => have e1 : e = ti.elem := by simpa using h
              rw [e1]
  · next n e =>
    simp only [Bool.and_eq_true, Nat.beq_eq] at h
    have e1 : n = ti.aux := by simpa using h.1
    have e2 : e = ti.elem := by simpa using h.2
    rw [e1, e2]
  · next e => have e1 : e = ti.elem := by simpa using h
              rw [e1]
  · next n e =>
    simp only [Bool.and_eq_true, Nat.beq_eq] at h
    have e1 : n = ti.aux := by simpa using h.1
    have e2 : e = ti.elem := by simpa using h.2
    rw [e1, e2]
  · next fs =>
    obtain ⟨e1, e2⟩ := fldsB_ok h
    refine ⟨fs, rfl, by simpa using e1, fun f q e => ?_⟩
    obtain ⟨F, i, df, g1, g2⟩ := e2 f q e
    exact ⟨F, i, df, by rw [← Array.getElem?_toList]; exact g1, g2⟩

noncomputable def tiB (P : Program) (t : TypeId) (ti : TI) : Bool :=
  match P.info? t, P.underlying t with
  | some i, some d => match i.zero with
    | some z => Nat.beq i.size ti.size && (Nat.beq i.bytes ti.bytes && ((ti.agg == isAggD d) && (sameL sameS z.cells.toList ti.zero && ((match z with | .agg _ => ti.agg | v => !ti.agg && okCell v) &&
        (Nat.beq ti.zero.length ti.size && (ti.zero.all isBase && (descB P ti d && (!ti.eqok || (isAggD d && eqB P t ti)))))))))
    | none => false
  | _, _ => false
theorem tiB_ok {P : Program} {t : TypeId} {ti : TI} (h : tiB P t ti = true) : TIok P t ti := by
  unfold tiB at h
  split at h
  · next i d hi hd =>
    split at h
    · next z hz =>
      simp only [Bool.and_eq_true, Bool.or_eq_true, Bool.not_eq_true', beq_iff_eq, Nat.beq_eq] at h
      obtain ⟨h1, h2, h3, h4, h5, h6, h7, h8, h9⟩ := h
      refine ⟨fun he => ?_, i, d, z, hi, hd, by simpa using h1, by simpa using h2, h3, hz, sameL_eq (fun _ _ => sameS_eq) _ _ h4, ?_, ?_, by simpa using h6, ?_, descB_ok h8⟩
      · rcases h9 with h9 | h9
        · rw [he] at h9; cases h9
        · exact eqB_ok hd h9.1 h9.2
      · intro ha
        split at h5
        · exact ⟨_, rfl⟩
        · simp [ha] at h5
      · intro ha
        split at h5
        · rw [ha] at h5; cases h5
        · simp [ha] at h5; exact h5
      · intro v hv
        exact List.all_eq_true.1 h7 v hv
    · cases h
  · cases h
end Go.Rem
