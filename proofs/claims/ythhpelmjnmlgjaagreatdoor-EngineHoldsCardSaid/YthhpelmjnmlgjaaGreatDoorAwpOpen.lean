/- Arguments that can be read as data are what typed values are told as. No program in sight. -/
import Derived.Test.YthhpelmjnmlgjaaGreatDoorAwpPost
import Derived.Test.YthhpelmjnmlgjaaGreatDoorAwpMore
import Derived.ChangeArms
import Derived.ChangeSlices
set_option linter.unusedSimpArgs false
set_option linter.unusedVariables false
namespace Go.Awp
open Go.RowKit Go.ChangeShapes Go.WideShapes

def RepC (W : World) (cs : List Value) (ds : List D) : Prop := cs.length = ds.length ∧ ∀ (i : Nat) (v : Value) (d : D), cs[i]? = some v → ds[i]? = some d → RepD (· < W.heap.size) W v d

/-- What can be read at a type is some typed value's cells. -/
structure Dc (P : Program) (T k : Nat) {α : Type} (f : α → List D) : Prop where
  cells : P.cellsOf T = k
  dec : ∀ {H : Type} (enc : TypeId × Value → H) (W : World) (sp : Nat → Bool) (held : Bool) (fuel : Nat) (cs : List Value) (x : DataW H × List MemPlace), DataW.trod enc P W 0 sp held fuel T cs = some x → ∃ a : α, RepC W cs (f a)

section
variable {P : Program} {W : World}

theorem repC_one {v : Value} {d : D} (h : RepD (· < W.heap.size) W v d) : RepC W [v] [d] := by
  refine ⟨rfl, fun i u e hu he => ?_⟩
  match i with
  | 0 => simp at hu he; subst hu; subst he; exact h
  | i + 1 => simp at hu
theorem repC_nil : RepC W [] [] := ⟨rfl, fun i u e hu _ => by simp at hu⟩
theorem repC_glue {cs : List Value} {o k : Nat} {d r : List D} (h : RepC W ((cs.drop o).take k) d) (hk : d.length = k) (h2 : RepC W (cs.drop (o + k)) r) : RepC W (cs.drop o) (d ++ r) := by
  have e : cs.drop o = (cs.drop o).take k ++ cs.drop (o + k) := by rw [← List.drop_drop, List.take_append_drop]
  have hl : ((cs.drop o).take k).length = k := by rw [h.1, hk]
  rw [e]
  refine ⟨by rw [List.length_append, List.length_append, h.1, h2.1], fun i v c hv hc => ?_⟩
  by_cases hi : i < k
  · rw [List.getElem?_append_left (by omega)] at hv hc
    exact h.2 i v c hv hc
  · rw [List.getElem?_append_right (by omega), hl] at hv
    rw [List.getElem?_append_right (by omega), hk] at hc
    exact h2.2 _ v c hv hc
theorem repC_end {cs : List Value} {n : Nat} (h : cs.length = n) : RepC W (cs.drop n) [] := by
  rw [List.drop_of_length_le (by omega)]; exact repC_nil
theorem repC_all {cs : List Value} {d : List D} (h : RepC W (cs.drop 0) d) : RepC W cs d := h

theorem dcInt {T : Nat} {k : IntKind} (h : P.underlying T = some (.int k)) (hc : P.cellsOf T = 1) : Dc P T 1 (eI k) := ⟨hc, fun enc W sp held fuel cs x hx => by
  obtain ⟨n, rfl, _⟩ := DataW.trod_int h hx
  exact ⟨n, repC_one (.s _)⟩⟩
theorem dcBool {T : Nat} (h : P.underlying T = some .bool) (hc : P.cellsOf T = 1) : Dc P T 1 eB := ⟨hc, fun enc W sp held fuel cs x hx => by
  obtain ⟨n, rfl, _⟩ := DataW.trod_bool h hx
  exact ⟨n, repC_one (.s _)⟩⟩
theorem dcStr {T : Nat} (h : P.underlying T = some .string) (hc : P.cellsOf T = 1) : Dc P T 1 eS := ⟨hc, fun enc W sp held fuel cs x hx => by
  obtain ⟨n, rfl, _⟩ := DataW.trod_string h hx
  exact ⟨n, repC_one (.s _)⟩⟩

theorem cells_at {a : Addr} {n : Nat} {cs : List Value} (h : W.cells? 0 a n = some cs) : cs.length = n ∧ ∀ i, i < n → W.cell? (a.add i) = cs[i]? := by
  have h1 := World.cells?_some h
  exact ⟨h1.2.1, fun i hi => h1.2.2 i hi⟩

theorem add_block (a : Addr) (m : Nat) : (a.add m).block = a.block := by simp only [Addr.add]; split <;> rfl
theorem add_add (a : Addr) (m n : Nat) : (a.add m).add n = a.add (m + n) := by
  simp only [Addr.add]
  by_cases hn : n = 0
  · subst hn; simp
  · by_cases hm : m = 0
    · subst hm; simp
    · rw [if_neg hn, if_neg hm, if_neg (by omega)]
      simp [Nat.add_assoc]
theorem cell_spot {a : Addr} {v : Value} (h : W.cell? a = some v) : a.spot = none ∧ a.block < W.heap.size := by
  unfold World.cell? at h
  cases hb : W.heap[a.block]? with
  | none => rw [hb] at h; simp at h
  | some o =>
    refine ⟨?_, (Array.getElem?_eq_some_iff.1 hb).1⟩
    rw [hb] at h
    cases o <;> simp at h
    exact h.1

theorem dcSlice {T e k : Nat} {α : Type} {f : α → List D} (h : P.underlying T = some (.slice e)) (hc : P.cellsOf T = 1) (hk : 0 < k) (he : Dc P e k f) (hf : EncT f k) : Dc P T 1 (eL k f) := ⟨hc, fun enc W sp held fuel cs x hx => by
  rcases DataW.trod_slice h hx with ⟨rfl, _⟩ | ⟨a, len, cap, elems, rest, n, _, rfl, _, _, hl, hm, hlen, hel, _⟩
  · exact ⟨[], repC_one (.nil k)⟩
  · have each : ∀ i, i < len → ∃ (b : α) (cs' : List Value), cs'.length = k ∧ (∀ j, j < k → W.cell? (a.add (i * k + j)) = cs'[j]?) ∧ RepC W cs' (f b) := fun i hi => by
      have h1 := hel i hi
      rw [he.cells] at h1
      have h2 : ∃ y, elems[i]? = some y := ⟨elems[i]'(by omega), by simp⟩
      obtain ⟨y, hy⟩ := h2
      rw [hy, Option.bind_eq_some_iff] at h1
      obtain ⟨cs', g1, g2⟩ := h1
      obtain ⟨b, hb⟩ := he.dec enc W sp held n cs' y g2
      obtain ⟨g3, g4⟩ := cells_at g1
      exact ⟨b, cs', g3, fun j hj => by rw [← g4 j hj, add_add], hb⟩
    have build : ∀ m, m ≤ len → ∃ l : List α, l.length = m ∧ ∀ i b, l[i]? = some b → ∃ cs' : List Value, cs'.length = k ∧ (∀ j, j < k → W.cell? (a.add (i * k + j)) = cs'[j]?) ∧ RepC W cs' (f b) := fun m => by
      induction m with
      | zero => exact fun _ => ⟨[], rfl, fun i b h => by simp at h⟩
      | succ m ih =>
        intro hm
        obtain ⟨l, hl, hi⟩ := ih (by omega)
        obtain ⟨b, cs', g1, g2, g3⟩ := each m (by omega)
        refine ⟨l ++ [b], by simp [hl], fun i b' hb' => ?_⟩
        by_cases him : i < m
        · rw [List.getElem?_append_left (by omega)] at hb'
          exact hi i b' hb'
        · rw [List.getElem?_append_right (by omega)] at hb'
          have : i - l.length = 0 := by
            rcases Nat.eq_zero_or_pos (i - l.length) with h | h
            · exact h
            · rw [List.getElem?_eq_none (by simp; omega)] at hb'; cases hb'
          rw [this] at hb'
          simp at hb'
          subst hb'
          have : i = m := by omega
          subst this
          exact ⟨cs', g1, g2, g3⟩
    obtain ⟨l, hll, hli⟩ := build len (Nat.le_refl _)
    refine ⟨l, repC_one ?_⟩
    by_cases h0 : len = 0
    · subst h0
      have : l = [] := List.eq_nil_of_length_eq_zero hll
      subst this
      exact .emp a cap k hm
    · obtain ⟨b0, cs0, g1, g2, _⟩ := each 0 (by omega)
      have g3 := g2 0 hk
      rw [List.getElem?_eq_getElem (by omega)] at g3
      obtain ⟨g4, g5⟩ := cell_spot g3
      have ha : a = ⟨a.block, a.off, none⟩ := by
        cases a with | mk b o s => simp [Addr.add] at g4; simp [g4]
      rw [add_block] at g5
      rw [ha, ← hll]
      have hlm : (l.map f).length = l.length := List.length_map _
      rw [← hlm]
      refine .sl a.block a.off cap k (l.map f) (fun i j => (W.cell? ⟨a.block, a.off + i * k + j, none⟩).getD undef) (by rw [hlm]; omega) hm g5 (fun i e hi => ?_) (fun i e j c hi hj => ?_) (fun i e j c hi hj => ?_)
      · exact hf.lens l e (List.mem_of_getElem? hi)
      all_goals
        rw [List.getElem?_map, Option.map_eq_some_iff] at hi
        obtain ⟨b, hb, rfl⟩ := hi
        obtain ⟨cs', q1, q2, q3⟩ := hli i b hb
        have hjk : j < k := by rw [← hf.len b]; exact (List.getElem?_eq_some_iff.1 hj).1
        have q4 := q2 j hjk
        rw [List.getElem?_eq_getElem (by omega)] at q4
        have q5 : W.cell? ⟨a.block, a.off + i * k + j, none⟩ = some (cs'[j]'(by omega)) := by
          rw [ha] at q4
          rw [Addr.add_lit] at q4
          rw [Nat.add_assoc]; exact q4
      · rw [q5]; rfl
      · rw [q5]
        exact q3.2 j _ c (List.getElem?_eq_getElem (by omega)) hj⟩

theorem field_some {H : Type} {enc : TypeId × Value → H} {sp : Nat → Bool} {held : Bool} {n : Nat} {fs : Array Field} {cs : List Value} {xs : List (DataW H × List MemPlace)} (hl : xs.length = fs.size)
    (h : ∀ (i : Nat) (f : Field), fs[i]? = some f → DataW.trod enc P W 0 sp held n f.type ((cs.drop f.offset).take (P.cellsOf f.type)) = xs[i]?) {i T o k : Nat} {α : Type} {g : α → List D} (hi : (fs[i]?).map (fun f => (f.type, f.offset)) = some (T, o)) (hd : Dc P T k g) :
    ∃ a : α, RepC W ((cs.drop o).take k) (g a) := by
  cases hq : fs[i]? with
  | none => rw [hq] at hi; cases hi
  | some f =>
    rw [hq] at hi
    simp only [Option.map_some, Option.some.injEq, Prod.mk.injEq] at hi
    obtain ⟨rfl, rfl⟩ := hi
    have hlt : i < xs.length := by rw [hl]; exact (Array.getElem?_eq_some_iff.1 hq).1
    have h1 := h i f hq
    rw [List.getElem?_eq_getElem hlt, hd.cells] at h1
    exact hd.dec enc W sp held n _ _ h1

/-- An argument that is a record. -/
theorem dc_agg {T k : Nat} {α : Type} {f : α → List D} {fs : Array Field} (ht : P.underlying T = some (.struct fs)) (hd : Dc P T k f) {H : Type} {enc : TypeId × Value → H} {sp : Nat → Bool} {held : Bool} {r : Reach} {b0 : Nat} {v : Value} {d : DataW H} {ps : List MemPlace}
    (hval : Value.okWide P W r b0 T v) (h : DataW.Trod enc P W 0 sp held T v d ps) : ∃ a : α, RepD (· < W.heap.size) W v (.agg (f a)) := by
  unfold Value.okWide at hval
  rw [ht] at hval
  obtain ⟨cs, rfl, _, _⟩ := hval
  obtain ⟨fuel, h⟩ := h
  obtain ⟨a, ha⟩ := hd.dec enc W sp held fuel _ _ h
  refine ⟨a, .agg cs _ ?_ fun i v c hv hc => ha.2 i v c ?_ hc⟩
  · simpa [Value.cells] using ha.1
  · simpa [Value.cells] using hv
/-- An argument of one cell. -/
theorem dc_one {T : Nat} {α : Type} {f : α → List D} {g : α → D} (hfg : ∀ a, f a = [g a]) (hd : Dc P T 1 f) {H : Type} {enc : TypeId × Value → H} {sp : Nat → Bool} {held : Bool} {v : Value} {d : DataW H} {ps : List MemPlace}
    (h1 : v.cells = #[v]) (h : DataW.Trod enc P W 0 sp held T v d ps) : ∃ a : α, RepD (· < W.heap.size) W v (g a) := by
  obtain ⟨fuel, h⟩ := h
  rw [h1] at h
  obtain ⟨a, ha⟩ := hd.dec enc W sp held fuel _ _ h
  refine ⟨a, ha.2 0 v (g a) rfl ?_⟩
  rw [hfg]; rfl
/-- Arguments that are numbers, texts, slices. -/
theorem dc_int {T : Nat} {k : IntKind} (ht : P.underlying T = some (.int k)) (hd : Dc P T 1 (eI k)) {H : Type} {enc : TypeId × Value → H} {sp : Nat → Bool} {held : Bool} {r : Reach} {b0 : Nat} {v : Value} {d : DataW H} {ps : List MemPlace}
    (hval : Value.okWide P W r b0 T v) (h : DataW.Trod enc P W 0 sp held T v d ps) : ∃ a : Int, RepD (· < W.heap.size) W v (.s (.int k a)) := by
  refine dc_one (g := fun a => .s (.int k a)) (fun _ => rfl) hd ?_ h
  unfold Value.okWide at hval
  rw [ht] at hval
  cases v <;> first | rfl | (simp [Cell.okWide, Cell.ok, ht] at hval)
theorem dc_str {T : Nat} (ht : P.underlying T = some .string) (hd : Dc P T 1 eS) {H : Type} {enc : TypeId × Value → H} {sp : Nat → Bool} {held : Bool} {r : Reach} {b0 : Nat} {v : Value} {d : DataW H} {ps : List MemPlace}
    (hval : Value.okWide P W r b0 T v) (h : DataW.Trod enc P W 0 sp held T v d ps) : ∃ a : ByteArray, RepD (· < W.heap.size) W v (.s (.string a)) := by
  refine dc_one (g := fun a => .s (.string a)) (fun _ => rfl) hd ?_ h
  unfold Value.okWide at hval
  rw [ht] at hval
  cases v <;> first | rfl | (simp [Cell.okWide, Cell.ok, ht] at hval)
theorem dc_sl {T e k : Nat} {α : Type} {f : α → List D} (ht : P.underlying T = some (.slice e)) (hd : Dc P T 1 (eL k f)) {H : Type} {enc : TypeId × Value → H} {sp : Nat → Bool} {held : Bool} {r : Reach} {b0 : Nat} {v : Value} {d : DataW H} {ps : List MemPlace}
    (hval : Value.okWide P W r b0 T v) (h : DataW.Trod enc P W 0 sp held T v d ps) : ∃ a : List α, RepD (· < W.heap.size) W v (.sl k (a.map f)) := by
  refine dc_one (g := fun a : List α => .sl k (a.map f)) (fun _ => rfl) hd ?_ h
  unfold Value.okWide at hval
  rw [ht] at hval
  cases v <;> first | rfl | (simp [Cell.okWide, Cell.ok, ht] at hval)
end
end Go.Awp
