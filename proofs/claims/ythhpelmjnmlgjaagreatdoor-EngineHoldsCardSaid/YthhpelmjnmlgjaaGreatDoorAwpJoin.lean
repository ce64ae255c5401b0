/- Joins, rows built of parts, small facts for printed walks. No program in sight. -/
import Derived.Test.YthhpelmjnmlgjaaGreatDoorAwpScal
set_option linter.unusedSimpArgs false
set_option linter.unusedVariables false
namespace Go.Awp
open Go.RowKit

theorem nb (t : Nat) : ∀ i, Loc.t t ≠ .b i := fun i h => nomatch h

section
variable {P : Program} {ops : Array Oper} {G : Call0} {o : Oper} {m : St}

theorem ht_bj {X α : Type} {c y : Code} {Q : Exit → St → Prop} {a : Option X} {f : X → Option α} {r : α} (h : a.bind f = some r) (hd : X → St) (hJ : ∀ v, f v = some r → HT P G y Q (hd v))
    (hx : ∀ (v : X) (K : St → Prop), a = some v → (∀ m', Wk G m' (hd v) → K m') → HT P G c (thenQ K Q) m) : HT P G (.seq c y) Q m := by
  obtain ⟨v, h1, h2⟩ := bpos h
  exact ht_seq (hx v _ h1 fun m' hw => fun a w hr => hJ v h2 a w (hw a w hr))

theorem ht_gj {X R R' : Type} {c y : Code} {Q : Exit → St → Prop} {a : Option (LR R X)} {g : R → R'} {f : X → Option R'} {r : R'} (h : (a.bind fun t => t.go' g f) = some r) (hd : X → St) (hJ : ∀ v, f v = some r → HT P G y Q (hd v))
    (hx : ∀ (v : LR R X) (K : St → Prop), a = some v → (∀ x m', v = .out x → Wk G m' (hd x) → K m') → (∀ r', v = .ret r' → g r' = r) → HT P G c (thenQ K Q) m) : HT P G (.seq c y) Q m := by
  obtain ⟨v, h1, h2⟩ := bpos h
  refine ht_seq (hx v _ h1 (fun x m' e hw => fun a w hr => ?_) fun r' e => ?_)
  · subst e; exact hJ x h2 a w (hw a w hr)
  · subst e; exact Option.some.inj h2

theorem go_id {R V : Type} {t : LR R V} {f : V → Option R} {r : R} (h : t.go f = some r) : t.go' id f = some r := by cases t <;> exact h

/-- What follows is not code of the same run of text. -/
theorem ht_bc {X α : Type} {c : Code} {Q : Exit → St → Prop} {a : Option X} {f : X → Option α} {r : α} (h : a.bind f = some r) (hd : X → St) (hJ : ∀ v m', f v = some r → Wk G m' (hd v) → Q .normal m')
    (hx : ∀ (v : X) (K : St → Prop), a = some v → (∀ m', Wk G m' (hd v) → K m') → HT P G c (thenQ K Q) m) : HT P G c Q m := by
  obtain ⟨v, h1, h2⟩ := bpos h
  refine ht_mono (hx v (fun m' => Q .normal m') h1 fun m' hw => hJ v m' h2 hw) fun e m hq => ?_
  cases e <;> exact hq

theorem ht_gc {X R R' : Type} {c : Code} {Q : Exit → St → Prop} {a : Option (LR R X)} {g : R → R'} {f : X → Option R'} {r : R'} (h : (a.bind fun t => t.go' g f) = some r) (hd : X → St) (hJ : ∀ v m', f v = some r → Wk G m' (hd v) → Q .normal m')
    (hx : ∀ (v : LR R X) (K : St → Prop), a = some v → (∀ x m', v = .out x → Wk G m' (hd x) → K m') → (∀ r', v = .ret r' → g r' = r) → HT P G c (thenQ K Q) m) : HT P G c Q m := by
  obtain ⟨v, h1, h2⟩ := bpos h
  refine ht_mono (hx v (fun m' => Q .normal m') h1 (fun x m' e hw => ?_) fun r' e => ?_) fun e m hq => ?_
  · subst e; exact hJ x m' h2 hw
  · subst e; exact Option.some.inj h2
  · cases e <;> exact hq

/-- A loop by rounds; what it ends in is named once. -/
theorem ht_rd {X α : Type} {c : Code} {Q : Exit → St → Prop} {l : Nat → X → Option α} {res : α} {k : Nat} {x : X} {m : St} (h : l k x = some res) (hz : ∀ x, l 0 x = none) (hd : X → St) (hw : Wk G m (hd x))
    (step : ∀ k x, l (k + 1) x = some res → ∀ K : St → Prop, (∀ x' m', l k x' = some res → Wk G m' (hd x') → K m') → HT P G c (thenQ K Q) (hd x)) : HT P G (.loop c) Q m :=
  ht_rounds hd l res hz step k x m h hw

theorem wkt {m m' m'' : St} (h : Wk G m m') (k : Wk G m' m'') : Wk G m m'' := h.trans k

theorem zero_of {e : TypeId} {z : Value} (h : (P.info? e).map (·.zero) = some (some z)) : ∀ w, (zeroValue e).run P w = .ok z w := fun w => by
  cases hi : P.info? e with
  | none => rw [hi] at h; simp at h
  | some i =>
    rw [hi] at h
    simp only [Option.map_some, Option.some.injEq] at h
    simp [zeroValue, typeInfo, hi, h, Result.andThen]

def onesB (xs : List (Nat × V)) : Bool := xs.all fun q => q.2.cellsV.all V.one

theorem w_bsl {α : Type} {d T e k n id : Nat} {parts : Array (Nat × Operand)} {z : Value} (xs : List (Nat × V)) (l : List α) (f : α → List D) (hop : o.op = .buildSlice T n parts) (hg : GOn ops o m) (hdst : o.dst = some d) (hd : d < G.nt) (hT : SliceT P T e k)
    (hz : ∀ w, (zeroValue e).run P w = .ok z w) (hf : EncT f k) (hk0 : 0 < k) (hx : parts.toList.map (fun p => (p.1, evO m p.2)) = xs) (h1 : onesB xs = true)
    (hn : l.length = n) (hsm : Nat.ble (n * k) (2 ^ 24) = true) (hfl : fillV (fun i => some (i * k, k)) (List.replicate (n * k) .top) xs = some ((l.map f).flatten.map .d)) (hid : m (.b id) = .nob) :
    Valid P ops G o m ⟨gloc ops o ++ (parts.toList.flatMap (fun p => lo p.2) ++ [.b id]), [(.b id, .row false e k (l.map f)), (.t d, .own id k l.length)]⟩ := by
  have hs := Nat.le_of_ble_eq_true hsm
  have := v_buildSlice (es := l.map f) (id := id) hop hg hdst hd hT hz hs hx (fun q hq c hc => List.all_eq_true.1 (List.all_eq_true.1 h1 q hq) c hc) (hf.lens l) (by simpa using hn) hfl hid (by
    have : n * 1 ≤ n * k := Nat.mul_le_mul_left n hk0
    simp only [maxCap]
    omega)
  rw [hn]
  exact this

theorem a1 {a b : Bool} (h : (a && b) = true) : a = true := by cases a <;> simp_all
theorem a2 {a b : Bool} (h : (a && b) = true) : b = true := by cases a <;> simp_all
theorem fN {a : Bool} (h : (!a) = true) : a = false := by cases a <;> simp_all
theorem bc (c : Bool) : (bif c then c else false) = c := by cases c <;> rfl
theorem bc2 (c : Bool) : (bif c then true else false) = c := by cases c <;> rfl
theorem bc3 (c d : Bool) : (bif c then c else d) = (c || d) := by cases c <;> rfl
theorem go_id' {R V : Type} {a : Option (LR R V)} {f : V → Option R} {r : R} (h : (a.bind fun t => t.go f) = some r) : (a.bind fun t => t.go' id f) = some r := by
  obtain ⟨v, h1, h2⟩ := bpos h
  rw [h1]; exact go_id h2

theorem SliceT.mk' {T e k : Nat} (h : P.underlying T = some (.slice e)) (h2 : (P.info? e).map (·.size) = some k) : SliceT P T e k := ⟨h, fun w => by
  cases hi : P.info? e with
  | none => rw [hi] at h2; simp at h2
  | some i =>
    rw [hi] at h2
    simp only [Option.map_some, Option.some.injEq] at h2
    simp [sizeOf, typeInfo, hi, h2, Result.andThen]⟩

theorem run_size {T k : Nat} (h2 : (P.info? T).map (·.size) = some k) (w : World) : (sizeOf T).run P w = .ok k w := by
  cases hi : P.info? T with
  | none => rw [hi] at h2; simp at h2
  | some i =>
    rw [hi] at h2
    simp only [Option.map_some, Option.some.injEq] at h2
    simp [sizeOf, typeInfo, hi, h2, Result.andThen]

def oneKind : TypeDesc → Bool
  | .struct _ | .array _ _ => false
  | _ => true

theorem OneT.mk' {T : Nat} {d : TypeDesc} (h : P.underlying T = some d) (hd : oneKind d = true) (h2 : (P.info? T).map (·.size) = some 1) : OneT P T := ⟨fun w => by
  have := run_underlying h w
  cases d <;> first | (simp [oneKind] at hd; done) | simp [isAgg, this, Result.andThen], run_size h2⟩
theorem AggT.mk' {T k : Nat} {fs : Array Field} (h : P.underlying T = some (.struct fs)) (h2 : (P.info? T).map (·.size) = some k) : AggT P T k := ⟨fun w => by
  have := run_underlying h w
  simp [isAgg, this, Result.andThen], run_size h2⟩

theorem retM_wk {fn : Func} {m' : St} {r : Ret} (hw : Wk G m m') (h : RetM P G fn m' r) : RetM P G fn m r := fun φ a w hr => by
  obtain ⟨φ', hr'⟩ := hw a w ⟨φ, hr⟩
  exact h φ' a w hr'

theorem hz1 {α : Type} {f : α → List D} {z0 : α} {z : Value} (h : f z0 = [.s z]) (hz : z.cells = #[z]) : ∀ (j : Nat) (d : D), (f z0)[j]? = some d → ∃ v, z.cells[j]? = some v ∧ (d = .s v ∨ zeroFits v (.d d) = true) := fun j d hd => by
  rw [h] at hd
  match j with
  | 0 => simp only [List.getElem?_cons_zero, Option.some.injEq] at hd; subst hd; exact ⟨z, by rw [hz]; rfl, .inl rfl⟩
  | j + 1 => simp at hd

theorem tq {K : St → Prop} {Q : Exit → St → Prop} {i : Nat} (h : Q (.exit i) m) : thenQ K Q (.exit i) m := h

theorem pA (c x : Bool) : (bif c then x else false) = (c && x) := by cases c <;> rfl
theorem pO (c x : Bool) : (bif c then true else x) = (c || x) := by cases c <;> rfl
theorem lm {α β : Type} (f : α → β) (l : List α) : l.length = (l.map f).length := (List.length_map f).symm
end
end Go.Awp
