/- slices.Insert of one element, slices.Delete of one: from the walks of their bodies (what each of their roads does, given what the builtins answer) to what the row is then; as operations. No program in sight. -/
import Derived.Test.YthhpelmjnmlgjaaGreatDoorAwpMore
import Derived.Lib.AppendZerosOnto
import Derived.Lib.Overlaps
import Derived.Laws.Append
set_option linter.unusedSimpArgs false
set_option linter.unusedVariables false
namespace Go.Awp
open Go.RowKit

/-- The roads of slices.Insert at one instance: f, its callee 'overlaps', the slice's type, the element's, its cells. -/
structure InsW (P : Program) (f ov T e k : Nat) : Prop where
  atEnd : ∀ (base : Option Addr) (n cap vb vc : Nat) (w w1 : World) (v' : Value), n ≤ cap → cap ≤ 9223372036854775807 →
    (∀ ty, (Builtin.append_ #[T, T] ty #[.slice base n cap, .slice (some ⟨vb, 0, none⟩) 1 vc]).run P w = .ok v' w1) →
    Calls P f #[.slice base n cap, .int .i64 n, .slice (some ⟨vb, 0, none⟩) 1 vc] w fun e w' => e = .returned v' ∧ w' = w1
  shift : ∀ (b n cap i vb vc : Nat) (w W1 W2 : World), i < n → n + 1 ≤ cap → cap ≤ 9223372036854775807 →
    (∀ lb cb, (callFunc ov #[.slice (some ⟨vb, 0, none⟩) 1 vc, .slice (some ⟨b, (i + 1) * k, none⟩) lb cb]).run P w = .ok (.value (.bool false)) w) →
    (∀ ty dc sc, (Builtin.copy_ #[T, T] ty #[.slice (some ⟨b, (i + 1) * k, none⟩) (n - i) dc, .slice (some ⟨b, i * k, none⟩) (n + 1 - i) sc]).run P w.drew = .ok (goInt (n - i : Nat)) W1) →
    (∀ ty dc, (Builtin.copy_ #[T, T] ty #[.slice (some ⟨b, i * k, none⟩) (n + 1 - i) dc, .slice (some ⟨vb, 0, none⟩) 1 vc]).run P W1 = .ok (goInt 1) W2) →
    Calls P f #[.slice (some ⟨b, 0, none⟩) n cap, .int .i64 i, .slice (some ⟨vb, 0, none⟩) 1 vc] w fun e w' => e = .returned (.slice (some ⟨b, 0, none⟩) (n + 1) cap) ∧ w' = W2
  grow : ∀ (b n cap i vb vc g cap2 : Nat) (w w1 w2 w3 : World), i < n → n ≤ cap → cap < n + 1 → cap ≤ 4611686018427387904 → n + 1 ≤ cap2 →
    (∀ ty, (Builtin.append_ #[T, 3] ty #[.slice (some ⟨b, 0, none⟩) i cap, .int .i64 ((n : Int) + 1 - i)]).run P w = .ok (.slice (some ⟨g, 0, none⟩) (n + 1) cap2) w1) →
    (∀ ty dc, (Builtin.copy_ #[T, T] ty #[.slice (some ⟨g, i * k, none⟩) (n + 1 - i) dc, .slice (some ⟨vb, 0, none⟩) 1 vc]).run P w1 = .ok (goInt 1) w2) →
    (∀ ty dc sc, (Builtin.copy_ #[T, T] ty #[.slice (some ⟨g, (i + 1) * k, none⟩) (n - i) dc, .slice (some ⟨b, i * k, none⟩) (n - i) sc]).run P w2.drew = .ok (goInt (n - i : Nat)) w3) →
    Calls P f #[.slice (some ⟨b, 0, none⟩) n cap, .int .i64 i, .slice (some ⟨vb, 0, none⟩) 1 vc] w fun e w' => e = .returned (.slice (some ⟨g, 0, none⟩) (n + 1) cap2) ∧ w' = w3

structure DelW (P : Program) (f T k : Nat) : Prop where
  del : ∀ (b n cap i : Nat) (v0 : Value) (w w1 w2 : World), i < n → n ≤ cap → cap ≤ 9223372036854775807 →
    (∀ ty a c, cap = i + 1 ∨ a = (⟨b, (i + 1) * k, none⟩ : Addr) → (Builtin.append_ #[T, T] ty #[.slice (some ⟨b, 0, none⟩) i cap, .slice (some a) (n - (i + 1)) c]).run P w.drew = .ok (.slice (some ⟨b, 0, none⟩) (n - 1) cap) w1) →
    (∀ ty c, (Builtin.clear_ #[T] ty #[.slice (some ⟨b, (n - 1) * k, none⟩) 1 c]).run P w1 = .ok v0 w2) →
    Calls P f #[.slice (some ⟨b, 0, none⟩) n cap, .int .i64 i, .int .i64 ((i : Int) + 1)] w fun e w' => e = .returned (.slice (some ⟨b, 0, none⟩) (n - 1) cap) ∧ w' = w2

section
variable {P : Program}

/-- copy, elements of k cells each. -/
theorem run_copy_k (w : World) (dT ty elem k : Nat) (g o dLen dCap : Nat) (a : Addr) (sLen sCap : Nat) (cur : Array Value) (t : TypeId) (cs : List Value)
    (hu : P.underlying dT = some (.slice elem)) (hs : (P.info? elem).map (·.size) = some k) (hg : w.heap[g]? = some (.cells cur t (0, 0))) (hn : cs.length = Nat.min sLen dLen * k)
    (hsrc : ∀ j v, cs[j]? = some v → w.cell? (a.add j) = some v) (hfit : o + cs.length ≤ cur.size) (h1 : ∀ v ∈ cs, v.oneCell' = true) :
    (Builtin.copy_ #[dT, dT] ty #[.slice (some ⟨g, o, none⟩) dLen dCap, .slice (some a) sLen sCap]).run P w =
      .ok (goInt (Nat.min sLen dLen : Nat)) (w.setRow g (cur.toList.take o ++ cs ++ cur.toList.drop (o + cs.length)).toArray) := by
  have hl := run_loadCells_list (P := P) w a cs hsrc
  have hst := run_storeCells_at P g o t cs 0 cur w hg (by simpa using hfit) h1
  cases hq : P.info? elem with
  | none => simp [hq] at hs
  | some i =>
    have hi : i.size = k := by simpa [hq] using hs
    simp [Builtin.copy_, run_underlying hu, Builtin.lenOf, Builtin.firstCells, sizeOf, typeInfo, hq, hi, ← hn, hl, hst]

theorem splice_len (L cs : List Value) (o : Nat) (h : o + cs.length ≤ L.length) : (L.take o ++ cs ++ L.drop (o + cs.length)).length = L.length := by simp; omega
theorem splice_at (L cs : List Value) (o j : Nat) (h : o + cs.length ≤ L.length) : (L.take o ++ cs ++ L.drop (o + cs.length))[j]? = if j < o then L[j]? else if j < o + cs.length then cs[j - o]? else L[j]? := by
  have hto : (L.take o).length = o := by simp; omega
  by_cases h1 : j < o
  · rw [if_pos h1, List.append_assoc, List.getElem?_append_left (by omega), List.getElem?_take_of_lt h1]
  · rw [if_neg h1]
    by_cases h2 : j < o + cs.length
    · rw [if_pos h2, List.getElem?_append_left (by simp; omega), List.getElem?_append_right (by omega), hto]
    · rw [if_neg h2, List.getElem?_append_right (by simp; omega), List.getElem?_drop]
      congr 1
      simp; omega

theorem cell_row {w : World} {g j : Nat} {L : List Value} {e : TypeId} {fr : Nat × Nat} (h : w.heap[g]? = some (.cells L.toArray e fr)) : w.cell? ⟨g, j, none⟩ = L[j]? := by
  rw [cell_of h, List.getElem?_toArray]

theorem setRow_at {w : World} {g : Nat} {cur : Array Value} {e : TypeId} {fr : Nat × Nat} (h : w.heap[g]? = some (.cells cur e fr)) (cs : Array Value) : (w.setRow g cs).heap[g]? = some (.cells cs e fr) := setRow_heap _ _ _ _ _ _ h
theorem setRow_ne {w : World} {g b : Nat} (cs : Array Value) (h : b ≠ g) : (w.setRow g cs).heap[b]? = w.heap[b]? := setRow_other _ _ _ _ h

/-- What is asked of slices.Insert's call: the row and what is put in, as cells. -/
def InsSpec (P : Program) (f e k bytes : Nat) : Prop := ∀ (w : World) (v : Value) (n i : Nat) (xs : List Value) (vb vc : Nat) (arr : Array Value) (te : TypeId) (ys : List Value), w.ownsRow 0 e k v n xs → (∀ u ∈ xs, u.oneCell' = true) → i ≤ n → (n + 1) * bytes ≤ 140737488355328 → n ≤ 4611686018427387000 → ys.length = k →
  w.heap[vb]? = some (.cells arr te (0, 0)) → arr.toList.take k = ys → k ≤ arr.size → (∀ u ∈ ys, u.oneCell' = true) → v.ownBlock ≠ some vb →
  Calls P f #[v, .int .i64 i, .slice (some ⟨vb, 0, none⟩) 1 vc] w fun e' w' => ∃ v', e' = .returned v' ∧ w'.ownsRow 0 e k v' (n + 1) (xs.take (i * k) ++ ys ++ xs.drop (i * k)) ∧ w.grownBy w' v.ownBlock ∧
    (v'.ownBlock = v.ownBlock ∨ ∃ g, v'.ownBlock = some g ∧ w.heap.size ≤ g)

theorem insSpec {f ov T e k bytes : Nat} (hW : InsW P f ov T e k) (hT : P.underlying T = some (.slice e)) (hE : ElemT P e k bytes) (h3 : P.underlying 3 = some (.int .i64))
    (hov : ∀ (w : World) (a b : Addr) (la ca lb cb : Nat), a.block ≠ b.block → ∀ tA tB kA kB, w.shape? a.block = some (tA, kA) → w.shape? b.block = some (tB, kB) → kB ≠ 0 → w.frozen? a = false → w.frozen? { block := a.block, off := kA } = false →
      (callFunc ov #[.slice (some a) la ca, .slice (some b) lb cb]).run P w = .ok (.value (.bool false)) w) : InsSpec P f e k bytes := by
  intro w v n i xs vb vc arr te ys hown hx1 hin hby hn2 hyl hvb hvy hka hy1 hne
  obtain ⟨ti, z, i1, i2, i3, i4, i5⟩ := hE.info
  have hk := hE.pos
  have hsz : (P.info? e).map (·.size) = some k := by rw [i1]; simp [i3]
  have hycell : ∀ j u, ys[j]? = some u → w.cell? ((⟨vb, 0, none⟩ : Addr).add j) = some u := fun j u hj => by
    rw [Addr.add_lit, Nat.zero_add, cell_of hvb, ← Array.getElem?_toList]
    rw [← hvy] at hj
    rw [List.getElem?_take] at hj
    split at hj
    · exact hj
    · cases hj
  have hfin : ∀ (v' : Value) (w' : World), w'.ownsRow 0 e k v' (n + 1) (xs ++ ys) → i = n → w'.ownsRow 0 e k v' (n + 1) (xs.take (i * k) ++ ys ++ xs.drop (i * k)) := fun v' w' h hi => by
    subst hi
    rw [List.take_of_length_le (by rw [hown.1]; exact Nat.le_refl _), List.drop_of_length_le (by rw [hown.1]; exact Nat.le_refl _), List.append_nil]
    exact h
  by_cases hi : i = n
  · obtain ⟨v', w', r1, r2, r3, _, r5⟩ := run_append_own_at (P := P) w 0 T 0 e ti z k bytes hT i1 i2 i3 i4 i5 hk v n xs hown ⟨vb, 0, none⟩ 1 vc ys (by omega) hycell hy1 (by simp only [maxLen]; omega) hby (Nat.zero_le _)
    have hrun : ∀ ty, (Builtin.append_ #[T, T] ty #[v, .slice (some ⟨vb, 0, none⟩) 1 vc]).run P w = .ok v' w' := fun ty => r1
    obtain ⟨base, cap, rfl, hcap, hcap2⟩ : ∃ base cap, v = .slice base n cap ∧ n ≤ cap ∧ cap ≤ 9223372036854775807 := by
      rcases hown.2 with ⟨h1, h2⟩ | ⟨g, cap, cur, h1, _, _, h4, h5, _⟩
      · subst h2; exact ⟨none, 0, h1, Nat.le_refl _, by omega⟩
      · exact ⟨_, cap, h1, h4, by simpa [maxLen] using h5⟩
    subst hi
    refine (hW.atEnd base i cap vb vc w w' v' hcap hcap2 hrun).mono ?_
    rintro e' w2 ⟨rfl, rfl⟩
    exact ⟨v', rfl, hfin _ _ r2 rfl, r3, r5.imp id fun h => ⟨_, h, Nat.le_refl _⟩⟩
  · have hlt : i < n := by omega
    obtain ⟨g, cap, cur, rfl, _, hcur, hncap, hmax, hcs, hxs⟩ : ∃ g cap cur, v = .slice (some ⟨g, 0, none⟩) n cap ∧ 0 ≤ g ∧ w.heap[g]? = some (.cells cur e (0, 0)) ∧ n ≤ cap ∧ cap ≤ maxLen ∧ cur.size = cap * k ∧ cur.toList.take (n * k) = xs := by
      rcases hown.2 with ⟨h1, h2⟩ | h
      · omega
      · exact h
    have hgv : g ≠ vb := fun h => hne (by simp [Value.ownBlock, h])
    have hxl : xs.length = n * k := hown.1
    have hik : i * k + k ≤ n * k := by rw [← Nat.succ_mul]; exact Nat.mul_le_mul_right k hlt
    have hnk : n * k ≤ cap * k := Nat.mul_le_mul_right k hncap
    have hcl : cur.toList.length = cap * k := by simpa using hcs
    have hxget : ∀ j, j < n * k → cur.toList[j]? = xs[j]? := fun j hj => by rw [← hxs, List.getElem?_take_of_lt hj]
    -- the tail that moves up
    have htl : (xs.drop (i * k)).length = (n - i) * k := by rw [List.length_drop, hxl, Nat.sub_mul]
    have htcell : ∀ (W : World), W.heap[g]? = some (.cells cur e (0, 0)) → ∀ j u, (xs.drop (i * k))[j]? = some u → W.cell? ((⟨g, i * k, none⟩ : Addr).add j) = some u := fun W hWg j u hj => by
      rw [Addr.add_lit, cell_of hWg, ← Array.getElem?_toList]
      have hjl : j < (n - i) * k := by rw [← htl]; exact (List.getElem?_eq_some_iff.1 hj).1
      rw [Nat.sub_mul] at hjl
      rw [hxget _ (by omega), ← List.getElem?_drop]; exact hj
    have ht1 : ∀ u ∈ xs.drop (i * k), u.oneCell' = true := fun u hu => hx1 u (List.mem_of_mem_drop hu)
    have hi1k : (i + 1) * k = i * k + k := Nat.succ_mul i k
    have hn1k : (n + 1) * k = n * k + k := Nat.succ_mul n k
    have hmk : (n - i) * k = n * k - i * k := Nat.sub_mul n i k
    -- what two splices make of a list
    have final : ∀ (L : List Value) (m : Nat), (n + 1) * k ≤ L.length → (∀ j, j < i * k → L[j]? = xs[j]?) →
        (((L.take ((i + 1) * k) ++ xs.drop (i * k) ++ L.drop ((i + 1) * k + (xs.drop (i * k)).length)).take (i * k) ++ ys ++ (L.take ((i + 1) * k) ++ xs.drop (i * k) ++ L.drop ((i + 1) * k + (xs.drop (i * k)).length)).drop (i * k + ys.length)).take ((n + 1) * k) = xs.take (i * k) ++ ys ++ xs.drop (i * k)) := fun L m hL hLx => by
      have e1 : (i + 1) * k + (xs.drop (i * k)).length ≤ L.length := by rw [htl]; omega
      have e2 : i * k + ys.length ≤ (L.take ((i + 1) * k) ++ xs.drop (i * k) ++ L.drop ((i + 1) * k + (xs.drop (i * k)).length)).length := by rw [splice_len _ _ _ e1]; omega
      apply List.ext_getElem?
      intro j
      by_cases hj : j < (n + 1) * k
      · rw [List.getElem?_take_of_lt hj, splice_at _ _ _ _ e2, splice_at _ _ _ _ e1, htl, hyl]
        have hxt : (xs.take (i * k)).length = i * k := by simp; omega
        by_cases h1 : j < i * k
        · rw [if_pos h1, if_pos (by omega), hLx j h1, List.append_assoc, List.getElem?_append_left (by omega), List.getElem?_take_of_lt h1]
        · rw [if_neg h1]
          by_cases h2 : j < i * k + k
          · rw [if_pos h2, List.getElem?_append_left (by rw [List.length_append]; omega), List.getElem?_append_right (by omega), hxt]
          · rw [if_neg h2, if_neg (by omega), if_pos (by omega), List.getElem?_append_right (by rw [List.length_append]; omega)]
            congr 1
            rw [List.length_append]; omega
      · rw [List.getElem?_eq_none (by rw [List.length_take]; omega), List.getElem?_eq_none (by rw [List.length_append, List.length_append, List.length_take, htl]; omega)]
    by_cases hroom : n + 1 ≤ cap
    · -- in place
      have hrk : (n + 1) * k ≤ cap * k := Nat.mul_le_mul_right k hroom
      let L1 := cur.toList.take ((i + 1) * k) ++ xs.drop (i * k) ++ cur.toList.drop ((i + 1) * k + (xs.drop (i * k)).length)
      have hL1 : L1.length = cap * k := by show (cur.toList.take ((i + 1) * k) ++ xs.drop (i * k) ++ cur.toList.drop ((i + 1) * k + (xs.drop (i * k)).length)).length = _; rw [splice_len _ _ _ (by rw [htl]; omega), hcl]
      let W1 := w.drew.setRow g L1.toArray
      have hW1g : W1.heap[g]? = some (.cells L1.toArray e (0, 0)) := setRow_at (w := w.drew) (g := g) hcur L1.toArray
      have hmin1 : Nat.min (n + 1 - i) (n - i) = n - i := Nat.min_eq_right (by omega)
      have hcp1 : ∀ ty dc sc, (Builtin.copy_ #[T, T] ty #[.slice (some ⟨g, (i + 1) * k, none⟩) (n - i) dc, .slice (some ⟨g, i * k, none⟩) (n + 1 - i) sc]).run P w.drew = .ok (goInt (n - i : Nat)) W1 := fun ty dc sc => by
        have := run_copy_k (P := P) w.drew T ty e k g ((i + 1) * k) (n - i) dc ⟨g, i * k, none⟩ (n + 1 - i) sc cur e (xs.drop (i * k)) hT hsz hcur (by rw [htl, hmin1]) (htcell w.drew hcur) (by rw [htl, hcs]; omega) ht1
        rw [hmin1] at this
        exact this
      let L2 := L1.take (i * k) ++ ys ++ L1.drop (i * k + ys.length)
      let W2 := W1.setRow g L2.toArray
      have hmin2 : Nat.min 1 (n + 1 - i) = 1 := Nat.min_eq_left (by omega)
      have hvb1 : W1.heap[vb]? = some (.cells arr te (0, 0)) := (setRow_ne (w := w.drew) _ (Ne.symm hgv)).trans hvb
      have hcp2 : ∀ ty dc, (Builtin.copy_ #[T, T] ty #[.slice (some ⟨g, i * k, none⟩) (n + 1 - i) dc, .slice (some ⟨vb, 0, none⟩) 1 vc]).run P W1 = .ok (goInt 1) W2 := fun ty dc => by
        have := run_copy_k (P := P) W1 T ty e k g (i * k) (n + 1 - i) dc ⟨vb, 0, none⟩ 1 vc L1.toArray e ys hT hsz hW1g (by rw [hmin2, hyl]; omega) (fun j u hj => by
          have := hycell j u hj
          rw [Addr.add_lit] at this ⊢
          rw [cell_of hvb1]; rw [cell_of hvb] at this; exact this) (by rw [List.size_toArray, hL1, hyl]; omega) hy1
        rw [hmin2] at this
        exact this
      have hcapL : cap ≤ 9223372036854775807 := by simpa [maxLen] using hmax
      have hshape : ∀ {b : Nat} {c : Array Value} {t : TypeId}, w.heap[b]? = some (.cells c t (0, 0)) → w.shape? b = some (t, c.size) := fun h => by simp [World.shape?, h]
      have hfz : ∀ {b off : Nat} {c : Array Value} {t : TypeId}, w.heap[b]? = some (.cells c t (0, 0)) → w.frozen? ⟨b, off, none⟩ = false := fun h => by simp [World.frozen?, h]
      refine (hW.shift g n cap i vb vc w W1 W2 hlt hroom hcapL (fun lb cb => hov w ⟨vb, 0, none⟩ ⟨g, (i + 1) * k, none⟩ 1 vc lb cb (Ne.symm hgv) te e arr.size cur.size (hshape hvb) (hshape hcur) (by rw [hcs]; omega) (hfz hvb) (hfz hvb)) hcp1 hcp2).mono ?_
      rintro e' w2 ⟨rfl, rfl⟩
      have hW2g : W2.heap[g]? = some (.cells L2.toArray e (0, 0)) := setRow_at hW1g L2.toArray
      have hL2 : L2.length = cap * k := by show (L1.take (i * k) ++ ys ++ L1.drop (i * k + ys.length)).length = _; rw [splice_len _ _ _ (by rw [hL1, hyl]; omega), hL1]
      refine ⟨_, rfl, ⟨by rw [List.length_append, List.length_append, List.length_take, htl, hyl]; omega, .inr ⟨g, cap, L2.toArray, rfl, Nat.zero_le _, hW2g, hroom, hmax, by rw [List.size_toArray, hL2], ?_⟩⟩, ⟨rfl, rfl, rfl, ?_, fun b hb hbne => ?_⟩, .inl rfl⟩
      · exact final cur.toList 0 (by rw [hcl]; omega) (fun j hj => hxget j (by omega))
      · show w.heap.size ≤ (W1.setRow g _).heap.size
        rw [setRow_size]
        show w.heap.size ≤ (w.drew.setRow g _).heap.size
        rw [setRow_size]
        exact Nat.le_refl _
      · have hbg : b ≠ g := fun h => hbne (by simp [Value.ownBlock, h])
        exact (setRow_ne _ hbg).trans (setRow_ne (w := w.drew) _ hbg)
    · -- a new row
      have hceq : cap = n := by omega
      have hcapL : cap ≤ 4611686018427387904 := by omega
      let g2 := w.heap.size
      have hgl : g < w.heap.size := (Array.getElem?_eq_some_iff.1 hcur).1
      have hgg : g ≠ g2 := by show g ≠ w.heap.size; omega
      have hvl : vb < w.heap.size := (Array.getElem?_eq_some_iff.1 hvb).1
      have hvg : vb ≠ g2 := by show vb ≠ w.heap.size; omega
      let cap2 := grownCap w (n + 1) cap e
      have hc2 : n + 1 ≤ cap2 := grownCap_ge w (n + 1) cap e
      have hc2m : cap2 ≤ maxLen := grownCap_le_maxLen w (n + 1) cap e (by simp only [maxLen]; omega)
      have hxt : (xs.take (i * k)).length = i * k := by simp; omega
      let L0 := xs.take (i * k) ++ (Builtin.zeroCells z.cells (n + 1 - i)).toList ++ (Builtin.zeroCells z.cells (cap2 - (n + 1))).toList
      have hL0 : L0.length = cap2 * k := by
        show (xs.take (i * k) ++ (Builtin.zeroCells z.cells (n + 1 - i)).toList ++ (Builtin.zeroCells z.cells (cap2 - (n + 1))).toList).length = _
        rw [List.length_append, List.length_append, hxt, Array.length_toList, Array.length_toList, size_zeroCells, size_zeroCells, i5, Nat.sub_mul, Nat.sub_mul, hn1k]
        have : n * k + k ≤ cap2 * k := by rw [← Nat.succ_mul]; exact Nat.mul_le_mul_right k hc2
        omega
      let w1 := w.drew.alloc (.cells L0.toArray e)
      have hw1g2 : w1.heap[g2]? = some (.cells L0.toArray e (0, 0)) := heap_alloc_at w.drew _
      have hold : ∀ {b : Nat}, b < w.heap.size → w1.heap[b]? = w.heap[b]? := fun hb => heap_alloc_lt (w := w.drew) hb
      have happ : ∀ ty, (Builtin.append_ #[T, 3] ty #[.slice (some ⟨g, 0, none⟩) i cap, .int .i64 ((n : Int) + 1 - i)]).run P w = .ok (.slice (some ⟨g2, 0, none⟩) (n + 1) cap2) w1 := fun ty => by
        have hold0 : (Builtin.firstCells ti.size i (.slice (some ⟨g, 0, none⟩) i cap)).run P w.drew = .ok (xs.take (i * k)).toArray w.drew := by
          have hl := run_loadCells_list (P := P) w.drew ⟨g, 0, none⟩ (xs.take (i * k)) (fun j u hj => by
            rw [Addr.add_lit, Nat.zero_add, cell_of (w := w.drew) (e := e) (fr := (0, 0)) hcur, ← Array.getElem?_toList]
            have hjl : j < i * k := by rw [← hxt]; exact (List.getElem?_eq_some_iff.1 hj).1
            rw [List.getElem?_take_of_lt hjl] at hj
            rw [hxget _ (by omega)]; exact hj)
          rw [hxt] at hl
          simp only [Builtin.firstCells, i3, hl]
        have := Go.Lib.run_append_grow_zeros (P := P) w T 3 ty e ti z .i64 .i64 hT h3 i1 i2 (some ⟨g, 0, none⟩) i cap (xs.take (i * k)) hold0 (n + 1 - i) (by omega) (by rw [i3]; exact hk) (by omega) (by omega) (by
          rw [i4]
          have : (n + 1 - i) * bytes ≤ (n + 1) * bytes := Nat.mul_le_mul_right _ (by omega)
          omega) (by
          rw [show i + (n + 1 - i) = n + 1 by omega, i4]
          exact growslice_fits (by omega) hby)
        rw [show i + (n + 1 - i) = n + 1 by omega, show (((n + 1 - i : Nat)) : Int) = (n : Int) + 1 - i by omega] at this
        rw [this]
        congr 2
        show _ = Obj.cells L0.toArray e
        congr 1
        apply Array.toList_inj.1
        simp [L0, cap2]
      let L1 := L0.take (i * k) ++ ys ++ L0.drop (i * k + ys.length)
      have hik2 : i * k + k ≤ cap2 * k := by have : n * k + k ≤ cap2 * k := by rw [← Nat.succ_mul]; exact Nat.mul_le_mul_right k hc2
                                             omega
      have hL1 : L1.length = cap2 * k := by show (L0.take (i * k) ++ ys ++ L0.drop (i * k + ys.length)).length = _; rw [splice_len _ _ _ (by rw [hL0, hyl]; omega), hL0]
      let w2 := w1.setRow g2 L1.toArray
      have hmin2 : Nat.min 1 (n + 1 - i) = 1 := Nat.min_eq_left (by omega)
      have hvb1 : w1.heap[vb]? = some (.cells arr te (0, 0)) := (hold hvl).trans hvb
      have hcp1 : ∀ ty dc, (Builtin.copy_ #[T, T] ty #[.slice (some ⟨g2, i * k, none⟩) (n + 1 - i) dc, .slice (some ⟨vb, 0, none⟩) 1 vc]).run P w1 = .ok (goInt 1) w2 := fun ty dc => by
        have := run_copy_k (P := P) w1 T ty e k g2 (i * k) (n + 1 - i) dc ⟨vb, 0, none⟩ 1 vc L0.toArray e ys hT hsz hw1g2 (by rw [hmin2, hyl]; omega) (fun j u hj => by
          have := hycell j u hj
          rw [Addr.add_lit] at this ⊢
          rw [cell_of hvb1]; rw [cell_of hvb] at this; exact this) (by rw [List.size_toArray, hL0, hyl]; omega) hy1
        rw [hmin2] at this
        exact this
      have hw2g2 : w2.heap[g2]? = some (.cells L1.toArray e (0, 0)) := setRow_at hw1g2 L1.toArray
      have hw2g : w2.heap[g]? = some (.cells cur e (0, 0)) := (setRow_ne _ hgg).trans ((hold hgl).trans hcur)
      let L2 := L1.take ((i + 1) * k) ++ xs.drop (i * k) ++ L1.drop ((i + 1) * k + (xs.drop (i * k)).length)
      let w3 := w2.drew.setRow g2 L2.toArray
      have hmin1 : Nat.min (n - i) (n - i) = n - i := Nat.min_self _
      have hnc : n * k + k ≤ cap2 * k := by rw [← Nat.succ_mul]; exact Nat.mul_le_mul_right k hc2
      have hcp2 : ∀ ty dc sc, (Builtin.copy_ #[T, T] ty #[.slice (some ⟨g2, (i + 1) * k, none⟩) (n - i) dc, .slice (some ⟨g, i * k, none⟩) (n - i) sc]).run P w2.drew = .ok (goInt (n - i : Nat)) w3 := fun ty dc sc => by
        have := run_copy_k (P := P) w2.drew T ty e k g2 ((i + 1) * k) (n - i) dc ⟨g, i * k, none⟩ (n - i) sc L1.toArray e (xs.drop (i * k)) hT hsz hw2g2 (by rw [htl, hmin1]) (htcell w2.drew hw2g) (by rw [htl, List.size_toArray, hL1]; omega) ht1
        rw [hmin1] at this
        exact this
      refine (hW.grow g n cap i vb vc g2 cap2 w w1 w2 w3 hlt hncap (by omega) hcapL hc2 happ hcp1 hcp2).mono ?_
      rintro e' w4 ⟨rfl, rfl⟩
      have hw3g : w3.heap[g2]? = some (.cells L2.toArray e (0, 0)) := setRow_at (w := w2.drew) hw2g2 L2.toArray
      have hL2 : L2.length = cap2 * k := by show (L1.take ((i + 1) * k) ++ xs.drop (i * k) ++ L1.drop ((i + 1) * k + (xs.drop (i * k)).length)).length = _; rw [splice_len _ _ _ (by rw [hL1, htl]; omega), hL1]
      refine ⟨_, rfl, ⟨by rw [List.length_append, List.length_append, List.length_take, htl, hyl]; omega, .inr ⟨g2, cap2, L2.toArray, rfl, Nat.zero_le _, hw3g, hc2, hc2m, by rw [List.size_toArray, hL2], ?_⟩⟩, ⟨rfl, rfl, rfl, ?_, fun b hb hbne => ?_⟩, .inr ⟨g2, rfl, Nat.le_refl _⟩⟩
      · show L2.take ((n + 1) * k) = _
        apply List.ext_getElem?
        intro j
        by_cases hj : j < (n + 1) * k
        · rw [List.getElem?_take_of_lt hj]
          show (L1.take ((i + 1) * k) ++ xs.drop (i * k) ++ L1.drop ((i + 1) * k + (xs.drop (i * k)).length))[j]? = _
          rw [splice_at _ _ _ _ (by rw [hL1, htl]; omega), htl]
          have hl1 : ∀ j, L1[j]? = if j < i * k then L0[j]? else if j < i * k + k then ys[j - i * k]? else L0[j]? := fun j => by
            show (L0.take (i * k) ++ ys ++ L0.drop (i * k + ys.length))[j]? = _
            rw [splice_at _ _ _ _ (by rw [hL0, hyl]; omega), hyl]
          by_cases h1 : j < i * k
          · rw [if_pos (by omega), hl1, if_pos h1]
            show (xs.take (i * k) ++ _ ++ _)[j]? = _
            rw [List.append_assoc, List.getElem?_append_left (by omega), List.append_assoc, List.getElem?_append_left (by omega)]
          · by_cases h2 : j < i * k + k
            · rw [if_pos (by omega), hl1, if_neg h1, if_pos h2, List.getElem?_append_left (by rw [List.length_append]; omega), List.getElem?_append_right (by omega), hxt]
            · rw [if_neg (by omega), if_pos (by omega), List.getElem?_append_right (by rw [List.length_append]; omega)]
              congr 1
              rw [List.length_append]; omega
        · rw [List.getElem?_eq_none (by rw [List.length_take]; omega), List.getElem?_eq_none (by rw [List.length_append, List.length_append, List.length_take, htl]; omega)]
      · show w.heap.size ≤ (w2.drew.setRow g2 _).heap.size
        rw [setRow_size]
        show w.heap.size ≤ (w1.setRow g2 _).heap.size
        rw [setRow_size]
        show w.heap.size ≤ (w.drew.alloc _).heap.size
        rw [size_alloc']
        exact Nat.le_succ _
      · have hbg : b ≠ g2 := by show b ≠ w.heap.size; omega
        exact (setRow_ne (w := w2.drew) _ hbg).trans ((setRow_ne _ hbg).trans (hold hb))
end
end Go.Awp
