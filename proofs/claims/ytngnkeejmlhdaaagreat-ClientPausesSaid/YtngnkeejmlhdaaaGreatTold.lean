/- Told. Texts joined by program (asm.py): RemTt RemOK1 RemOK2 RemOK3. -/
import Derived.Test.YtngnkeejmlhdaaaGreatEval
import Derived.Test.YtngnkeejmlhdaaaGreatDraws
import Derived.Test.YtngnkeejmlhdaaaGreatBuilder
import Derived.Test.YtngnkeejmlhdaaaGreatWrote
import Derived.Test.YtngnkeejmlhdaaaGreatTypes
set_option linter.all false
namespace Go.Rem.T
def ty3 : TI := { size := 1, bytes := 8, agg := false, zero := [Value.int IntKind.i64 (Int.ofNat 0)], flds := [], elem := 0, aux := 0, kind := 1, ik := IntKind.i64, eqok := false }
def ty411 : TI := { size := 1, bytes := 8, agg := false, zero := [Value.map Option.none], flds := [], elem := 3, aux := 3, kind := 8, ik := IntKind.i64, eqok := false }
end Go.Rem.T
/-! Functions that are told: the builder's. -/
namespace Go.Rem
open Go.Proofs

/-- a function is told truly -/
def OkO (P : Program) (f : FuncId) (g : List Value → AH → Option (Value × AH)) : Prop := Enterable P f ∧ ∀ args H v H', g args H = some (v, H') →
  ∀ ι w (cargs : Array Value), HRel P ι H w → All2 (TR ι) args cargs.toList → Calls P f cargs w (CallR P ι H w v H')

theorem enterable_of {P : Program} {f : FuncId} {F : Func} (h : P.funcs[f]? = some F) (hb : F.body.isSome = true) (hn : F.name ≠ "runtime.NumGoroutine") : Enterable P f := ⟨F, h, hb, hn⟩
theorem args1 {ι : Ren} {v : Value} {cargs : Array Value} (h : All2 (TR ι) [v] cargs.toList) : ∃ c, cargs = #[c] ∧ TR ι v c := by
  generalize hl : cargs.toList = l at h
  cases h with
  | @cons a c l1 cs r hr =>
    cases hr
    exact ⟨c, by apply Array.ext'; simpa using hl, r⟩
theorem args2 {ι : Ren} {v u : Value} {cargs : Array Value} (h : All2 (TR ι) [v, u] cargs.toList) : ∃ c d, cargs = #[c, d] ∧ TR ι v c ∧ TR ι u d := by
  generalize hl : cargs.toList = l at h
  cases h with
  | @cons a c l1 cs r hr =>
    cases hr with
    | @cons a d l2 cs r' hr =>
      cases hr
      exact ⟨c, d, by apply Array.ext'; simpa using hl, r, r'⟩
theorem tupNil (ι : Ren) : TR ι (.tuple #[]) (.tuple #[]) := .tup .nil

/-- one cell is stored -/
theorem store1_ok {P : Program} {ι : Ren} {H : AH} {w : World} (hH : HRel P ι H w) {b B x o : Nat} {vs : List Value} {e : TypeId} {op : Bool} (hg : H.get b = some (.cells vs e op)) (hb : ι b = some (B, x))
    {v c : Value} (hr : SR ι v c) (ho : o < vs.length) : HRel P ι (H.put b (.cells (vs.set o v) e op)) (w.setCell ⟨B, o, none⟩ c) ∧ Ext ι ι H (H.put b (.cells (vs.set o v) e op)) w (w.setCell ⟨B, o, none⟩ c) := by
  obtain ⟨c1, c2, lo, hi, e1, e2, e3, e4, e5⟩ := hH.blk hg (by simp) hb
  rw [setCell_set c e1]
  refine hH.upd hg (by simp) hb _ ?_
  have hl := e2.length
  have hset : ∀ {l1 l2 : List Value} (n : Nat), All2 (SR ι) l1 l2 → All2 (SR ι) (l1.set n v) (l2.set n c) := by
    intro l1 l2 n h
    induction h generalizing n with
    | nil => exact .nil
    | cons r h ih => cases n with
      | zero => exact .cons hr h
      | succ n => exact .cons r (ih n)
  refine ⟨c1.set o c, c2, lo, hi, ?_, hset o e2, e3, e4, ?_⟩
  · have : (⟨c1 ++ c2⟩ : Array Value).setIfInBounds o c = ⟨c1.set o c ++ c2⟩ := by
      apply Array.ext'
      simp [List.set_append_left _ _ (show o < c1.length by omega)]
    rw [this]
  · rcases e5 with e5 | e5
    · exact .inl e5
    · right; simpa using e5

def okT (e n : Nat) : Bool := (Nat.beq e 339 && Nat.beq n 1) || (Nat.beq e 341 && Nat.beq n 2) || (Nat.beq e 398 && Nat.beq n 2)
noncomputable def ccO (args : List Value) (H : AH) : Option (Value × AH) :=
  match args with
  | [.pointer (some ⟨b, 0, none⟩)] => match H.get b with
    | some (.cells (.pointer none :: vs) e op) => cnd (!op && okT e (lenL vs)) (some (.tuple #[], H.put b (.cells (.pointer (some ⟨b, 0, none⟩) :: vs) e op))) none
    | some (.cells (.pointer (some ⟨b', 0, none⟩) :: _) _ _) => cnd (Nat.beq b b') (some (.tuple #[], H)) none
    | _ => none
  | _ => none

theorem lies339 : liesAt Tryz.prog Tryz.prog.depth 339 (2 / Tryz.prog.cellsOf 339) 0 339 1 = true := by kernel_rfl
theorem lies341 : liesAt Tryz.prog Tryz.prog.depth 341 (3 / Tryz.prog.cellsOf 341) 0 339 1 = true := by kernel_rfl
theorem lies398 : liesAt Tryz.prog Tryz.prog.depth 398 (3 / Tryz.prog.cellsOf 398) 0 339 1 = true := by kernel_rfl

theorem cc_ok : OkO Tryz.prog 374 ccO := by
  refine ⟨enterable_of Tryz.func374 rfl (by decide), ?_⟩
  intro args H v H' h ι w cargs hH ha
  unfold ccO at h
  split at h
  · next b =>
    obtain ⟨c, rfl, hc⟩ := args1 ha
    obtain ⟨B, x, hi, rfl⟩ := hc.ptr_inv
    split at h
    · next vs e op hg =>
      obtain ⟨hk, h⟩ := cnd_some h
      injection h with h; injection h with h1 h2; subst h1; subst h2
      simp only [Bool.and_eq_true, Bool.not_eq_true', lenL_eq] at hk
      obtain ⟨hop, hT⟩ := hk
      obtain ⟨c1, c2, lo, hi', e1, e2, e3, e4, e5⟩ := hH.blk hg (by simp) hi
      obtain ⟨rfl, rfl⟩ := e3 hop
      rw [List.append_nil] at e1
      cases e2 with
      | @cons _ p _ cs r hr =>
        have hp : p = .pointer none := by rcases r with ⟨r⟩; cases r; rfl
        subst hp
        have hlen := hr.length
        have c0 : w.cell? ⟨B, 0, none⟩ = some (.pointer none) := by rw [cellAt e1]; rfl
        have hsh : w.shape? B = some (e, vs.length + 1) := by rw [shape_cells e1]; simp [hlen]
        have hlies : liesAt Tryz.prog Tryz.prog.depth e ((vs.length + 1) / Tryz.prog.cellsOf e) 0 339 1 = true := by
          simp only [okT, Bool.or_eq_true, Bool.and_eq_true, Nat.beq_eq] at hT
          rcases hT with (⟨h1, h2⟩ | ⟨h1, h2⟩) | ⟨h1, h2⟩
          · have f1 : e = 339 := by simpa using h1
            have f2 : vs.length + 1 = 2 := by have : vs.length = 1 := by simpa using h2
                                              omega
            rw [f1, f2]; exact lies339
          · have f1 : e = 341 := by simpa using h1
            have f2 : vs.length + 1 = 3 := by have : vs.length = 2 := by simpa using h2
                                              omega
            rw [f1, f2]; exact lies341
          · have f1 : e = 398 := by simpa using h1
            have f2 : vs.length + 1 = 3 := by have : vs.length = 2 := by simpa using h2
                                              omega
            rw [f1, f2]; exact lies398
        refine (Tryz.copyCheck_fresh B w e (vs.length + 1) (by omega) c0 hsh (frozen_closed e1 0) hlies).mono ?_
        rintro e' w' ⟨rfl, rfl⟩
        obtain ⟨k1, k2⟩ := store1_ok hH hg hi (o := 0) (v := .pointer (some ⟨b, 0, none⟩)) (c := .pointer (some ⟨B, 0, none⟩)) (.base (.ptr hi)) (by simp)
        exact ⟨ι, _, rfl, tupNil ι, k1, k2⟩
    · next b' vs e op hg =>
      obtain ⟨hk, h⟩ := cnd_some h
      injection h with h; injection h with h1 h2; subst h1; subst h2
      have hb : b = b' := by simpa using hk
      subst hb
      obtain ⟨c1, c2, lo, hi', e1, e2, e3, e4, e5⟩ := hH.blk hg (by simp) hi
      cases e2 with
      | @cons _ p _ cs r hr =>
        have hp : p = .pointer (some ⟨B, 0, none⟩) := by
          rcases r with ⟨r⟩
          cases r with
          | ptr h' => rw [hi] at h'; injection h' with h'; injection h' with h1 h2; rw [h1]
        subst hp
        have c0 : w.cell? ⟨B, 0, none⟩ = some (.pointer (some ⟨B, 0, none⟩)) := by rw [cellAt e1]; rfl
        refine (Tryz.copyCheck_used B w c0).mono ?_
        rintro e' w' ⟨rfl, rfl⟩
        exact ⟨ι, _, rfl, tupNil ι, hH, Ext.refl _ _ _⟩
    · cases h
  · cases h
end Go.Rem
namespace Go.Rem
open Go.Proofs

/-- a world in which all that lay lies as it lay -/
theorem HRel.later {P : Program} {ι : Ren} {H : AH} {w w' : World} (h : HRel P ι H w) (hb : ∀ B, B < w.heap.size → w'.heap[B]? = w.heap[B]?) : HRel P ι H w' := by
  refine ⟨fun b k e d => ?_, h.inj, h.dom, h.fresh⟩
  obtain ⟨B, x, e1, e2⟩ := h.blocks b k e d
  exact ⟨B, x, e1, by rw [hb B (h.lt e d e1)]; exact e2⟩
theorem Ext.later {ι : Ren} {H : AH} {w w' : World} (hs : w.heap.size ≤ w'.heap.size) (hb : ∀ B, B < w.heap.size → w'.heap[B]? = w.heap[B]?) (ht : w'.tape = w.tape) (ho : w'.os = w.os) (hp : w'.output = w.output) : Ext ι ι H H w w' :=
  ⟨Le.refl ι, hs, Nat.le_refl _, fun B hB _ => hb B hB, fun _ h => .inl h, fun _ k h => .inl ⟨k, h⟩, ht, ho, hp, fun _ _ h => .inl h⟩
/-- a block isn't known any more, and is another one -/
theorem HRel.killW {P : Program} {ι : Ren} {H : AH} {w w' : World} (h : HRel P ι H w) {b : Nat} {k : ABlk} {B x : Nat} (hg : H.get b = some k) (hk : k ≠ .dead) (hi : ι b = some (B, x))
    (hs : w'.heap.size = w.heap.size) (hb : ∀ C, C ≠ B → w'.heap[C]? = w.heap[C]?) (ht : w'.tape = w.tape) (ho : w'.os = w.os) (hp : w'.output = w.output) :
    HRel P ι (H.put b .dead) w' ∧ Ext ι ι H (H.put b .dead) w w' := by
  have hget : ∀ c q, (H.put b .dead).get c = some q → q ≠ .dead → c ≠ b ∧ H.get c = some q := by
    intro c q e d
    rw [AH.get_put] at e
    split at e
    · injection e with e; exact absurd e.symm d
    · next e' => exact ⟨e', e⟩
  refine ⟨⟨?_, ?_, h.dom, ?_⟩, ⟨Le.refl ι, by omega, Nat.le_refl _, ?_, ?_, ?_, ht, ho, hp, fun _ _ h => .inl h⟩⟩
  · intro c q e d
    obtain ⟨hc, e'⟩ := hget c q e d
    obtain ⟨C, y, e1, e2⟩ := h.blocks c q e' d
    refine ⟨C, y, e1, ?_⟩
    rw [hb C (fun e3 => hc (h.inj c b q k B y x e' d hg hk (e3 ▸ e1) hi))]; exact e2
  · intro c c' q q' C y y' e1 d1 e2 d2 i1 i2
    exact h.inj c c' q q' C y y' (hget c q e1 d1).2 d1 (hget c' q' e2 d2).2 d2 i1 i2
  · intro c q e
    rw [AH.get_put] at e
    split at e
    · next e' => subst e'; exact h.fresh _ _ hg
    · exact h.fresh _ _ e
  · intro C _ hl
    exact hb C fun e => hl ⟨b, k, x, hg, hk, e ▸ hi⟩
  · rintro C ⟨c, q, y, e, d, i⟩
    exact .inl ⟨c, q, y, (hget c q e d).2, d, i⟩
  · intro c q e
    rw [AH.get_put] at e
    split at e
    · next e' => exact .inl ⟨k, by rw [e']; exact hg⟩
    · exact .inl ⟨q, e⟩

noncomputable def growO (args : List Value) (H : AH) : Option (Value × AH) :=
  match args with
  | [.pointer (some ⟨b, 0, none⟩), .int .i64 (.ofNat n)] => match H.get b with
    | some (.cells [p, .slice none 0 0] e op) => cnd (!op && Nat.ble n 1000000)
        (some (.tuple #[], (H.put b (.cells [p, .slice (some ⟨H.next, 0, none⟩) 0 1] e op)).new (.cells [] 5 true))) none
    | _ => none
  | _ => none
theorem sizeP5 : sizeP Tryz.prog 5 = 1 := by
  have := Tryz.sizeByte
  unfold sizeP
  cases h : Tryz.prog.info? 5 with
  | none => rw [h] at this; cases this
  | some i => rw [h] at this; simpa using this
theorem setCell_push {w : World} {B o : Nat} {v : Value} {ob : Obj} (hB : B < w.heap.size) : ({ w with heap := w.heap.push ob } : World).setCell ⟨B, o, none⟩ v = (w.setCell ⟨B, o, none⟩ v).alloc ob := by
  simp only [World.setCell, World.alloc]
  congr 1
  apply Array.ext_getElem?
  intro i
  rw [Array.getElem?_modify, Array.getElem?_push, Array.getElem?_push, Array.getElem?_modify]
  simp only [Array.size_modify]
  by_cases hi : i = w.heap.size
  · subst hi
    have : ¬ B = w.heap.size := by omega
    simp [this]
  · simp [hi]

theorem grow_ok : OkO Tryz.prog 375 growO := by
  refine ⟨enterable_of Tryz.func375 rfl (by decide), ?_⟩
  intro args H v H' h ι w cargs hH ha
  unfold growO at h
  split at h
  · next b n =>
    obtain ⟨c, d, rfl, hc, hd⟩ := args2 ha
    obtain ⟨B, x, hi, rfl⟩ := hc.ptr_inv
    obtain rfl := hd.int_inv
    split at h
    · next p e op hg =>
      obtain ⟨hk, h⟩ := cnd_some h
      injection h with h; injection h with h1 h2; subst h1; subst h2
      simp only [Bool.and_eq_true, Bool.not_eq_true', Nat.ble_eq] at hk
      obtain ⟨hop, hn⟩ := hk
      have hBlt := hH.lt hg (by simp) hi
      obtain ⟨c1, c2, lo, hi', e1, e2, e3, e4, e5⟩ := hH.blk hg (by simp) hi
      obtain ⟨rfl, rfl⟩ := e3 hop
      rw [List.append_nil] at e1
      cases e2 with
      | @cons _ p' _ cs r hr =>
        cases hr with
        | @cons _ q _ cs r' hr =>
          cases hr
          have hq : q = .slice none 0 0 := by rcases r' with ⟨r'⟩; cases r'; rfl
          subst hq
          refine (Tryz.grow_fresh B n lo p' e w e1 (by omega)).mono ?_
          rintro e' w' ⟨rfl, cs, d, rfl⟩
          have hbn : b ≠ H.next := by have := hH.fresh b _ hg; omega
          obtain ⟨k1, k2⟩ := hH.new (k := .cells [] 5 true) (by simp) cs.size (.cells cs 5 (0, 0)) (by
            refine ⟨[], cs.toList, 0, 0, by simp, .nil, (fun h => by cases h), fun _ => ?_, .inl rfl⟩
            rw [sizeP5]; simp)
          have hle := k2.le
          have hg2 : (H.new (.cells [] 5 true)).get b = some (.cells [p, .slice none 0 0] e op) := by rw [AH.get_new, if_neg hbn]; exact hg
          have hsl : SR (add ι H.next (w.heap.size, cs.size)) (.slice (some ⟨H.next, 0, none⟩) 0 1) (.slice (some ⟨w.heap.size, 0, none⟩) 0 cs.size) := by
            have := BR.sl (ι := add ι H.next (w.heap.size, cs.size)) (b := H.next) (o := 0) (l := 0) (c := 1) (add_same _ _ _) (Nat.zero_le _)
            have hc : capC 1 cs.size = cs.size := by simp [capC, capN, capO]
            rw [hc] at this
            exact .base this
          obtain ⟨k3, k4⟩ := store1_ok k1 hg2 (hle _ _ hi) (o := 1) hsl (by simp)
          have hgG : ∀ c, ((H.put b (.cells [p, .slice (some ⟨H.next, 0, none⟩) 0 1] e op)).new (.cells [] 5 true)).get c = ((H.new (.cells [] 5 true)).put b (.cells ([p, .slice none 0 0].set 1 (.slice (some ⟨H.next, 0, none⟩) 0 1)) e op)).get c := by
            intro c
            by_cases h1 : c = H.next
            · have h3 : c = (H.put b (.cells [p, .slice (some ⟨H.next, 0, none⟩) 0 1] e op)).next := h1
              rw [AH.get_new, if_pos h3, AH.get_put, if_neg (h1 ▸ Ne.symm hbn), AH.get_new, if_pos h1]
            · have h3 : ¬ c = (H.put b (.cells [p, .slice (some ⟨H.next, 0, none⟩) 0 1] e op)).next := h1
              rw [AH.get_new, if_neg h3, AH.get_put, AH.get_put, AH.get_new]
              by_cases h2 : c = b
              · rw [if_pos h2, if_pos h2]; rfl
              · rw [if_neg h2, if_neg h2, if_neg h1]
          have hw : ({ ((w.setCell ⟨B, 1, none⟩ (.slice (some ⟨w.heap.size, 0, none⟩) 0 cs.size)).alloc (.cells cs 5)) with drawn := d } : World) =
              { (({ w with heap := w.heap.push (.cells cs 5 (0, 0)) } : World).setCell ⟨B, 1, none⟩ (.slice (some ⟨w.heap.size, 0, none⟩) 0 cs.size)) with drawn := d } := by
            rw [setCell_push hBlt]
          rw [hw]
          exact ⟨_, _, rfl, tupNil _, (k3.same hgG rfl).drew d, ((k2.trans k4).same hgG rfl).trans (Ext.drew d)⟩
    · cases h
  · cases h

noncomputable def strO (args : List Value) (H : AH) : Option (Value × AH) :=
  match args with
  | [.pointer (some ⟨b, 0, none⟩)] => match H.get b with
    | some (.cells (_ :: .slice none 0 0 :: _) _ op) => cnd (!op) (some (.string (mkStr []), H)) none
    | some (.cells (_ :: .slice (some ⟨s, 0, none⟩) n _ :: _) _ op) => match H.get s with
      | some (.cells vs e _) => match takeN n vs with
        | some cs => match bytesOf cs with
          | some l => cnd (!op && (Nat.ble 1 n && (Nat.ble n 1000000 && Nat.beq e 5))) (some (.string (mkStr l), H.put s .dead)) none
          | none => none
        | none => none
      | _ => none
    | _ => none
  | _ => none

theorem bytes_len {cs : List Value} {l : List UInt8} (h : bytesOf cs = some l) : ∃ ns : List Int, cs = ns.map (Value.int .u8) ∧ l = ns.map (fun n => UInt8.ofNat n.toNat) ∧ ∀ n ∈ ns, 0 ≤ n ∧ n ≤ 255 := by
  induction cs generalizing l with
  | nil => injection h with h; subst h; exact ⟨[], rfl, rfl, fun _ h => by cases h⟩
  | cons v cs ih =>
    change Option.rec none (fun b => mapO (b :: ·) (bytesOf cs)) (byteOf1 v) = some l at h
    cases hv : byteOf1 v with
    | none => rw [hv] at h; cases h
    | some b =>
      rw [hv] at h
      obtain ⟨l', h1, rfl⟩ := Option.map_eq_some_iff.1 (by rw [← mapO_eq]; exact h)
      obtain ⟨ns, rfl, rfl, h3⟩ := ih h1
      unfold byteOf1 at hv
      split at hv
      · next k n =>
        split at hv
        · obtain ⟨hn, hv⟩ := cnd_some hv
          injection hv with hv; subst hv
          have hn : n ≤ 255 := by simpa using hn
          refine ⟨(n : Int) :: ns, rfl, by simp, ?_⟩
          intro m hm
          rcases List.mem_cons.1 hm with rfl | hm
          · omega
          · exact h3 m hm
        · cases hv
      · cases hv

theorem str_ok : OkO Tryz.prog 292 strO := by
  refine ⟨enterable_of Tryz.func292 rfl (by decide), ?_⟩
  intro args H v H' h ι w cargs hH ha
  unfold strO at h
  split at h
  · next b =>
    obtain ⟨c, rfl, hc⟩ := args1 ha
    obtain ⟨B, x, hi, rfl⟩ := hc.ptr_inv
    split at h
    · next p vs e op hg =>
      obtain ⟨hop, h⟩ := cnd_some h
      injection h with h; injection h with h1 h2; subst h1; subst h2
      simp only [Bool.not_eq_true'] at hop
      obtain ⟨c1, c2, lo, hi', e1, e2, e3, e4, e5⟩ := hH.blk hg (by simp) hi
      obtain ⟨rfl, rfl⟩ := e3 hop
      rw [List.append_nil] at e1
      cases e2 with
      | @cons _ p' _ cs r hr =>
        cases hr with
        | @cons _ q _ cs r' hr =>
          have hq : q = .slice none 0 0 := by rcases r' with ⟨r'⟩; cases r'; rfl
          subst hq
          refine (Tryz.String_nil B lo p' cs e w e1).mono ?_
          rintro e' w' ⟨rfl, rfl⟩
          exact ⟨ι, _, rfl, .base (.str _), hH.drew _, Ext.drew _⟩
    · next p s n cp vs e op hg =>
      split at h
      · next us e' op' hs =>
        split at h
        · next cs0 hcs =>
          split at h
          · next l hl =>
            obtain ⟨hk, h⟩ := cnd_some h
            injection h with h; injection h with h1 h2; subst h1; subst h2
            simp only [Bool.and_eq_true, Bool.not_eq_true', Nat.ble_eq, Nat.beq_eq] at hk
            obtain ⟨hop, hn1, hn2, he'⟩ := hk
            have he' : e' = 5 := by simpa using he'
            subst he'
            obtain ⟨c1, c2, lo, hi', e1, e2, e3, e4, e5⟩ := hH.blk hg (by simp) hi
            obtain ⟨rfl, rfl⟩ := e3 hop
            rw [List.append_nil] at e1
            cases e2 with
            | @cons _ p' _ cs r hr =>
              cases hr with
              | @cons _ q _ cs r' hr =>
                obtain ⟨G, y, hsG, hlc, rfl⟩ : ∃ G y, ι s = some (G, y) ∧ n ≤ capN cp ∧ q = .slice (some ⟨G, 0, none⟩) n (capC cp y) := by
                  rcases r' with ⟨r'⟩
                  cases r' with
                  | sl h1 h2 => exact ⟨_, _, h1, h2, rfl⟩
                obtain ⟨d1, d2, lo2, hi2, f1, f2, f3, f4, f5⟩ := hH.blk hs (by simp) hsG
                obtain ⟨ns, hns1, hns2, hns3⟩ := bytes_len hl
                have htk : cs0 = us.take n ∧ n ≤ us.length := by
                  rw [takeN_eq] at hcs
                  split at hcs
                  · next hle => injection hcs with hcs; exact ⟨hcs.symm, hle⟩
                  · cases hcs
                have hd1 := f2.length
                have hsame : d1.take n = ns.map (Value.int .u8) := by
                  have h3 := f2.take n
                  rw [← htk.1, hns1] at h3
                  exact ints_same h3
                have hll : l.length = n := by
                  have := congrArg List.length hsame
                  rw [List.length_take, List.length_map] at this
                  rw [hns2, List.length_map]; omega
                have hcell : ∀ (j : Nat) (z : UInt8), l[j]? = some z → (⟨d1 ++ d2⟩ : Array Value)[j]? = some (.int .u8 z.toNat) := by
                  intro j z hz
                  have hj : j < n := by
                    rcases Nat.lt_or_ge j l.length with h | h
                    · omega
                    · rw [List.getElem?_eq_none h] at hz; cases hz
                  have h1 : (d1.take n)[j]? = (ns.map (Value.int .u8))[j]? := by rw [hsame]
                  rw [List.getElem?_take_of_lt hj, List.getElem?_map] at h1
                  rw [hns2, List.getElem?_map] at hz
                  obtain ⟨m, hm, rfl⟩ := Option.map_eq_some_iff.1 hz
                  rw [hm] at h1
                  obtain ⟨g1, g2⟩ := hns3 m (List.mem_of_getElem? hm)
                  have h2 : (⟨d1 ++ d2⟩ : Array Value)[j]? = d1[j]? := by
                    simp only [List.getElem?_toArray]
                    rw [List.getElem?_append_left (by omega)]
                  rw [h2, h1]
                  have : ((UInt8.ofNat m.toNat).toNat : Int) = m := by
                    simp; omega
                  simp only [Option.map_some, this]
                refine (Tryz.String_row B lo G (capC cp y) p' cs e ⟨d1 ++ d2⟩ (lo2, hi2) l w (by rw [hll]; exact e1) f1 (by unfold capC; omega) (by intro e; rw [e] at hll; simp at hll; omega) (by simp; omega) (by omega) hcell).mono ?_
                rintro e'' w' ⟨rfl, rfl⟩
                have hGlt := hH.lt hs (by simp) hsG
                obtain ⟨k1, k2⟩ := hH.killW (w' := w.drew.freeze ⟨G, 0, none⟩ l.length) hs (by simp) hsG (by
                  unfold World.freeze
                  split
                  · rfl
                  · simp only [Array.size_modify]; rfl) (by
                  intro C hC
                  unfold World.freeze
                  split
                  · rfl
                  · simp only [Array.getElem?_modify, if_neg (Ne.symm hC)]; rfl) (by unfold World.freeze; split <;> rfl) (by unfold World.freeze; split <;> rfl) (by unfold World.freeze; split <;> rfl)
                refine ⟨ι, _, rfl, ?_, k1, k2⟩
                exact .base (.str _)
          · cases h
        · cases h
      · cases h
    · cases h
  · cases h
end Go.Rem
namespace Go.Rem
open Go.Proofs

theorem lookup_run {P : Program} {ι : Ren} {H : AH} {w : World} (hH : HRel P ι H w) {t : TypeId} {ok : Bool} {ti te tk : TI} (hT : TIok P t ti) (hTe : TIok P ti.elem te) (hTk : TIok P ti.aux tk) (hk8 : ti.kind = 8) {z : Value} (hz : zeroOf te = some z)
    {mv kv m k v : Value} (hm : TR ι mv m) (hkr : TR ι kv k) (h3 : lookupA tk z H ok mv kv = some v) : ∃ c, TR ι v c ∧ (Instr.lookup t m k ok).run P w = .ok c w := by
  obtain ⟨d, hd, hD, hu⟩ := hT.run_underlying w
  have := hD.2.2.2.2.2.2.1 hk8; subst this
  obtain ⟨z', hz1, hz2⟩ := zero_ok (ι := ι) hTe hz w
  unfold lookupA at h3
  obtain ⟨hkey, h4⟩ := cnd_some h3
  cases hes : mapOf H mv with
  | none => rw [hes] at h4; cases h4
  | some es =>
    simp only [hes] at h4
    cases hf : findK kv es 0 with
    | none => rw [hf] at h4; cases h4
    | some r =>
      have hout : ∀ (es' : List MapEntry) (r' : Option (Nat × Value)), All2 (KV ι) es es' → Found ι kv es es' 0 r r' →
          ∃ c, TR ι v c ∧ ((match r' with | some p => pure (p.2, true) | none => (do pure (← zeroValue ti.elem, false)) : Sem (Value × Bool)).run P w).andThen (fun p w => .ok (if ok then .tuple #[p.1, .bool p.2] else p.1) w) = .ok c w := by
        intro es' r' _ f3
        cases r with
        | none =>
          have : r' = none := f3
          subst this
          simp only [hf] at h4
          injection h4 with h4; subst h4
          refine ⟨if ok then .tuple #[z', .bool false] else z', ?_, by simp [hz1]⟩
          cases ok with
          | true => exact .tup (.cons hz2 (.cons (.sc (.base (.bool _))) .nil))
          | false => exact .ar hz2
        | some p =>
          obtain ⟨j, e, v', g1, rfl, g3, g4⟩ := f3
          simp only [hf] at h4
          injection h4 with h4; subst h4
          refine ⟨if ok then .tuple #[v', .bool true] else v', ?_, by simp⟩
          cases ok with
          | true => exact .tup (.cons g3 (.cons (.sc (.base (.bool _))) .nil))
          | false => exact .ar g3
      rcases mapOf_ok hH hes hm with ⟨hX, rfl⟩ | ⟨B, ents, clock, hX, e1, e2⟩
      · obtain ⟨_, f1, r', f2, f3⟩ := key_run hTk hkey hkr .nil hf w
        obtain ⟨c, hc1, hc2⟩ := hout [] r' .nil f3
        refine ⟨c, hc1, ?_⟩
        cases r' <;> simpa [Instr.lookup, hd, hX, f1, f2, hz1] using hc2
      · obtain ⟨_, f1, r', f2, f3⟩ := key_run hTk hkey hkr e2 hf w
        obtain ⟨c, hc1, hc2⟩ := hout _ r' e2 f3
        refine ⟨c, hc1, ?_⟩
        cases r' <;> simpa [Instr.lookup, hd, hX, MapKept.run_getObj_map e1, f1, f2, hz1] using hc2

theorem ti411 : TIok Tryz.prog 411 T.ty411 := tiB_ok (by kernel_rfl)
theorem ti3 : TIok Tryz.prog 3 T.ty3 := tiB_ok (by kernel_rfl)

noncomputable def wrO (args : List Value) (H : AH) : Option (Value × AH) :=
  match args with
  | [.pointer (some ⟨nb, 0, none⟩), .int .i64 c] => match H.get nb with
    | some (.cells [_, .slice (some ⟨s, 0, none⟩) n _] _ _) => match H.get s with
      | some (.cells (.map mb :: _) _ _) => cnd (Nat.beq n 1) (match lookupA T.ty3 (.int .i64 (.ofNat 0)) H true (.map mb) (.int .i64 c) with
        | some (.tuple vs) => match vs.toList with
          | [.int .i64 v, .bool t] => cnd (cnd t true (eqF v (.ofNat 0))) (some (.tuple #[.int .i64 v, .bool t], H)) none
          | _ => none
        | _ => none) none
      | _ => none
    | _ => none
  | _ => none

theorem wr_ok : OkO Tryz.prog 461 wrO := by
  refine ⟨enterable_of Tryz.func461 rfl (by decide), ?_⟩
  intro args H v H' h ι w cargs hH ha
  unfold wrO at h
  split at h
  · next nb c =>
    obtain ⟨a1, a2, rfl, h1, h2⟩ := args2 ha
    obtain ⟨NB, x, hi, rfl⟩ := h1.ptr_inv
    obtain rfl := h2.int_inv
    split at h
    · next p s n cp e op hg =>
      split at h
      · next mb vs e' op' hs =>
        obtain ⟨hn, h⟩ := cnd_some h
        have hn : n = 1 := by simpa using hn
        subst hn
        split at h
        · next tv hlk =>
          split at h
          · next v0 t hvs =>
            obtain ⟨_, h⟩ := cnd_some h
            obtain ⟨ht, h⟩ := cnd_some h
            injection h with h; injection h with h3 h4; subst h3; subst h4
            obtain ⟨c1, c2, lo, hi', e1, e2, e3, e4, e5⟩ := hH.blk hg (by simp) hi
            cases e2 with
            | @cons _ p' _ cs r hr =>
              cases hr with
              | @cons _ q _ cs r' hr =>
                obtain ⟨G, y, hsG, hlc, rfl⟩ : ∃ G y, ι s = some (G, y) ∧ 1 ≤ capN cp ∧ q = .slice (some ⟨G, 0, none⟩) 1 (capC cp y) := by
                  rcases r' with ⟨r'⟩
                  cases r' with
                  | sl h1 h2 => exact ⟨_, _, h1, h2, rfl⟩
                obtain ⟨d1, d2, lo2, hi2, f1, f2, f3, f4, f5⟩ := hH.blk hs (by simp) hsG
                cases f2 with
                | @cons _ m' _ ds r2 hr2 =>
                  have hm' : TR ι (.map mb) m' := .sc r2
                  obtain ⟨mB, rfl⟩ : ∃ mB, m' = .map mB := by
                    rcases r2 with ⟨r2⟩
                    cases r2 with
                    | nilm => exact ⟨_, rfl⟩
                    | map _ => exact ⟨_, rfl⟩
                  have cN : w.cell? ⟨NB, 1, none⟩ = some (.slice (some ⟨G, 0, none⟩) 1 (capC cp y)) := by rw [cellAt e1]; rfl
                  have cM : w.cell? ⟨G, 0, none⟩ = some (.map mB) := by rw [cellAt f1]; rfl
                  have htv : tv = #[.int .i64 v0, .bool t] := by apply Array.ext'; exact hvs
                  subst htv
                  have hall : ∀ W, RowKit.Below w.heap.size w W → (Instr.lookup 411 (.map mB) (.int .i64 c) true).run Tryz.prog W = .ok (.tuple #[.int .i64 v0, .bool t]) W := by
                    intro W hB
                    have hHW : HRel Tryz.prog ι H W := hH.later (fun B hlt => hB.block B hlt)
                    obtain ⟨cc, g1, g2⟩ := lookup_run (t := 411) (ok := true) hHW ti411 ti3 ti3 rfl (z := .int .i64 (.ofNat 0)) rfl hm' h2 hlk
                    rw [g2]
                    obtain ⟨vs', rfl, hv⟩ := g1.tup_inv
                    generalize hl : vs'.toList = l at hv
                    cases hv with
                    | @cons _ u1 _ l1 q1 hv =>
                      cases hv with
                      | @cons _ u2 _ l2 q2 hv =>
                        cases hv
                        have g3 := (TR.ar q1).int_inv
                        have g4 := (TR.ar q2).bool_inv
                        subst g3; subst g4
                        have : vs' = #[.int .i64 v0, .bool t] := by apply Array.ext'; exact hl
                        rw [this]
                  have hGlt := hH.lt hs (by simp) hsG
                  refine ((callsIn_wide (n := 5)).1 (Tryz.written_in Fence.wide 5 trivial trivial trivial rfl (by omega) NB G 0 (capC cp y) mB c v0 t (by
                    intro e; rw [e] at ht; rw [cnd_false, eqF_eq] at ht; simpa using ht) w cN hGlt cM hall)).mono ?_
                  rintro e'' w' ⟨rfl, hB⟩
                  have hlater : ∀ B, B < w.heap.size → w'.heap[B]? = w.heap[B]? := fun B hlt => hB.block B hlt
                  refine ⟨ι, _, rfl, ?_, hH.later hlater, Ext.later hB.size hlater hB.tape hB.os hB.output⟩
                  exact .tup (.cons (.sc (.base (.int _ _))) (.cons (.sc (.base (.bool _))) .nil))
          · cases h
        · cases h
      · cases h
    · cases h
  · cases h
end Go.Rem
