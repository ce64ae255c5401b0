/- Lemmas behind GdPtP, part 2: they hold as they stand, without a condition beyond their own. -/
import Derived.Test.YthhpelmjnmlgjaaGreatDoorPt1
import Derived.Lib.AppendZerosOnto
import Derived.Lib.Overlaps
import Derived.Laws.Append
import Derived.Laws.Small
import Derived.Lib.LaidU8
import Derived.Shelf.Unicode.DecodeSlow
import Derived.ChangeArms
import Derived.ChangeSlices
import Derived.Carry
import Derived.KernelRfl
import Derived.Shelf.Unicode.Decode
import Derived.Shelf.Unicode.DecodeAny
import Derived.Ground.Names2Prog
import Derived.Shelf.Slices.SearchI
import Derived.Test.YthhpelmjnmlgjaaGreatDoorProg
import Derived.Shelf.RegionOpenPlain
import Derived.WalkKit
import Derived.Lib.Walk
import Derived.Lib.SliceRun
import Derived.Lib.JoinLaws
import Derived.Laws.Externs
import Derived.Laws.IdiomCopy
set_option linter.unusedSimpArgs false
set_option linter.unusedVariables false
namespace Go.Awp
open Go.RowKit
/-- The roads of slices.Insert at one instance: f, its callee 'overlaps', the slice's type, the element's, its cells. -/
structure InsW (P : Program) (f ov T e k : Nat) : Prop where
  atEnd : ∀ (base : Option Addr) (n cap vb vc : Nat) (w w1 : World) (v' : Value), n ≤ cap → cap ≤ 9223372036854775807 →
    (∀ ty, (Builtin.append_ #[T, T] ty #[.slice base n cap, .slice (some ⟨vb, 0, none⟩) 1 vc]).run P w = .ok v' w1) →
    Calls P f #[.slice base n cap, .int .i64 n, .slice (some ⟨vb, 0, none⟩) 1 vc] w fun e w' => e = .returned v' ∧ w' = w1
  shift : ∀ (b n cap i vb vc : Nat) (w W1 W2 : World), i < n → n + 1 ≤ cap → cap ≤ 9223372036854775807 →
    (∀ lb cb, (callFunc ov #[.slice (some ⟨vb, 0, none⟩) 1 vc, .slice (some ⟨b, (i + 1) * k, none⟩) lb cb]).run P w = .ok (.value (.bool false)) w) →
    (∀ ty dc sc, (Builtin.copy_ #[T, T] ty #[.slice (some ⟨b, (i + 1) * k, none⟩) (n - i) dc, .slice (some ⟨b, i * k, none⟩) (n + 1 - i) sc]).run P w.drew = .ok (goInt (n - i : Nat)) W1) →
    (∀ ty dc, (Builtin.copy_ #[T, T] ty #[.slice (some ⟨b, i * k, none⟩) (n + 1 - i) dc, .slice (some ⟨vb, 0, none⟩) 1 vc]).run P W1 = .ok (goInt 1) W2) →
    Calls P f #[.slice (some ⟨b, 0, none⟩) n cap, .int .i64 i, .slice (some ⟨vb, 0, none⟩) 1 vc] w fun e w' => e = .returned (.slice (some ⟨b, 0, none⟩) (n + 1) cap) ∧ w' = W2
  grow : ∀ (b n cap i vb vc g cap2 : Nat) (w w1 w2 w3 : World), i < n → n ≤ cap → cap < n + 1 → cap ≤ 4611686018427387904 → n + 1 ≤ cap2 →
    (∀ ty, (Builtin.append_ #[T, 3] ty #[.slice (some ⟨b, 0, none⟩) i cap, .int .i64 ((n : Int) + 1 - i)]).run P w = .ok (.slice (some ⟨g, 0, none⟩) (n + 1) cap2) w1) →
    (∀ ty dc, (Builtin.copy_ #[T, T] ty #[.slice (some ⟨g, i * k, none⟩) (n + 1 - i) dc, .slice (some ⟨vb, 0, none⟩) 1 vc]).run P w1 = .ok (goInt 1) w2) →
    (∀ ty dc sc, (Builtin.copy_ #[T, T] ty #[.slice (some ⟨g, (i + 1) * k, none⟩) (n - i) dc, .slice (some ⟨b, i * k, none⟩) (n - i) sc]).run P w2.drew = .ok (goInt (n - i : Nat)) w3) →
    Calls P f #[.slice (some ⟨b, 0, none⟩) n cap, .int .i64 i, .slice (some ⟨vb, 0, none⟩) 1 vc] w fun e w' => e = .returned (.slice (some ⟨g, 0, none⟩) (n + 1) cap2) ∧ w' = w3
structure DelW (P : Program) (f T k : Nat) : Prop where
  del : ∀ (b n cap i : Nat) (v0 : Value) (w w1 w2 : World), i < n → n ≤ cap → cap ≤ 9223372036854775807 →
    (∀ ty a c, cap = i + 1 ∨ a = (⟨b, (i + 1) * k, none⟩ : Addr) → (Builtin.append_ #[T, T] ty #[.slice (some ⟨b, 0, none⟩) i cap, .slice (some a) (n - (i + 1)) c]).run P w.drew = .ok (.slice (some ⟨b, 0, none⟩) (n - 1) cap) w1) →
    (∀ ty c, (Builtin.clear_ #[T] ty #[.slice (some ⟨b, (n - 1) * k, none⟩) 1 c]).run P w1 = .ok v0 w2) →
    Calls P f #[.slice (some ⟨b, 0, none⟩) n cap, .int .i64 i, .int .i64 ((i : Int) + 1)] w fun e w' => e = .returned (.slice (some ⟨b, 0, none⟩) (n - 1) cap) ∧ w' = w2
section
variable {P : Program}
/-- copy, elements of k cells each. -/
theorem run_copy_k (w : World) (dT ty elem k : Nat) (g o dLen dCap : Nat) (a : Addr) (sLen sCap : Nat) (cur : Array Value) (t : TypeId) (cs : List Value)
    (hu : P.underlying dT = some (.slice elem)) (hs : (P.info? elem).map (·.size) = some k) (hg : w.heap[g]? = some (.cells cur t (0, 0))) (hn : cs.length = Nat.min sLen dLen * k)
    (hsrc : ∀ j v, cs[j]? = some v → w.cell? (a.add j) = some v) (hfit : o + cs.length ≤ cur.size) (h1 : ∀ v ∈ cs, v.oneCell' = true) :
    (Builtin.copy_ #[dT, dT] ty #[.slice (some ⟨g, o, none⟩) dLen dCap, .slice (some a) sLen sCap]).run P w =
      .ok (goInt (Nat.min sLen dLen : Nat)) (w.setRow g (cur.toList.take o ++ cs ++ cur.toList.drop (o + cs.length)).toArray) := by
  have hl := run_loadCells_list (P := P) w a cs hsrc
  have hst := run_storeCells_at P g o t cs 0 cur w hg (by simpa using hfit) h1
  cases hq : P.info? elem with
  | none => simp [hq] at hs
  | some i =>
    have hi : i.size = k := by simpa [hq] using hs
    simp [Builtin.copy_, run_underlying hu, Builtin.lenOf, Builtin.firstCells, sizeOf, typeInfo, hq, hi, ← hn, hl, hst]
theorem splice_len (L cs : List Value) (o : Nat) (h : o + cs.length ≤ L.length) : (L.take o ++ cs ++ L.drop (o + cs.length)).length = L.length := by simp; omega
theorem splice_at (L cs : List Value) (o j : Nat) (h : o + cs.length ≤ L.length) : (L.take o ++ cs ++ L.drop (o + cs.length))[j]? = if j < o then L[j]? else if j < o + cs.length then cs[j - o]? else L[j]? := by
  have hto : (L.take o).length = o := by simp; omega
  by_cases h1 : j < o
  · rw [if_pos h1, List.append_assoc, List.getElem?_append_left (by omega), List.getElem?_take_of_lt h1]
  · rw [if_neg h1]
    by_cases h2 : j < o + cs.length
    · rw [if_pos h2, List.getElem?_append_left (by simp; omega), List.getElem?_append_right (by omega), hto]
    · rw [if_neg h2, List.getElem?_append_right (by simp; omega), List.getElem?_drop]
      congr 1
      simp; omega
theorem setRow_at {w : World} {g : Nat} {cur : Array Value} {e : TypeId} {fr : Nat × Nat} (h : w.heap[g]? = some (.cells cur e fr)) (cs : Array Value) : (w.setRow g cs).heap[g]? = some (.cells cs e fr) := setRow_heap _ _ _ _ _ _ h
theorem setRow_ne {w : World} {g b : Nat} (cs : Array Value) (h : b ≠ g) : (w.setRow g cs).heap[b]? = w.heap[b]? := setRow_other _ _ _ _ h
/-- What is asked of slices.Insert's call: the row and what is put in, as cells. -/
def InsSpec (P : Program) (f e k bytes : Nat) : Prop := ∀ (w : World) (v : Value) (n i : Nat) (xs : List Value) (vb vc : Nat) (arr : Array Value) (te : TypeId) (ys : List Value), w.ownsRow 0 e k v n xs → (∀ u ∈ xs, u.oneCell' = true) → i ≤ n → (n + 1) * bytes ≤ 140737488355328 → n ≤ 4611686018427387000 → ys.length = k →
  w.heap[vb]? = some (.cells arr te (0, 0)) → arr.toList.take k = ys → k ≤ arr.size → (∀ u ∈ ys, u.oneCell' = true) → v.ownBlock ≠ some vb →
  Calls P f #[v, .int .i64 i, .slice (some ⟨vb, 0, none⟩) 1 vc] w fun e' w' => ∃ v', e' = .returned v' ∧ w'.ownsRow 0 e k v' (n + 1) (xs.take (i * k) ++ ys ++ xs.drop (i * k)) ∧ w.grownBy w' v.ownBlock ∧
    (v'.ownBlock = v.ownBlock ∨ ∃ g, v'.ownBlock = some g ∧ w.heap.size ≤ g)
theorem insSpec {f ov T e k bytes : Nat} (hW : InsW P f ov T e k) (hT : P.underlying T = some (.slice e)) (hE : ElemT P e k bytes) (h3 : P.underlying 3 = some (.int .i64))
    (hov : ∀ (w : World) (a b : Addr) (la ca lb cb : Nat), a.block ≠ b.block → ∀ tA tB kA kB, w.shape? a.block = some (tA, kA) → w.shape? b.block = some (tB, kB) → kB ≠ 0 → w.frozen? a = false → w.frozen? { block := a.block, off := kA } = false →
      (callFunc ov #[.slice (some a) la ca, .slice (some b) lb cb]).run P w = .ok (.value (.bool false)) w) : InsSpec P f e k bytes := by
  intro w v n i xs vb vc arr te ys hown hx1 hin hby hn2 hyl hvb hvy hka hy1 hne
  obtain ⟨ti, z, i1, i2, i3, i4, i5⟩ := hE.info
  have hk := hE.pos
  have hsz : (P.info? e).map (·.size) = some k := by rw [i1]; simp [i3]
  have hycell : ∀ j u, ys[j]? = some u → w.cell? ((⟨vb, 0, none⟩ : Addr).add j) = some u := fun j u hj => by
    rw [Addr.add_lit, Nat.zero_add, cell_of hvb, ← Array.getElem?_toList]
    rw [← hvy] at hj
    rw [List.getElem?_take] at hj
    split at hj
    · exact hj
    · cases hj
  have hfin : ∀ (v' : Value) (w' : World), w'.ownsRow 0 e k v' (n + 1) (xs ++ ys) → i = n → w'.ownsRow 0 e k v' (n + 1) (xs.take (i * k) ++ ys ++ xs.drop (i * k)) := fun v' w' h hi => by
    subst hi
    rw [List.take_of_length_le (by rw [hown.1]; exact Nat.le_refl _), List.drop_of_length_le (by rw [hown.1]; exact Nat.le_refl _), List.append_nil]
    exact h
  by_cases hi : i = n
  · obtain ⟨v', w', r1, r2, r3, _, r5⟩ := run_append_own_at (P := P) w 0 T 0 e ti z k bytes hT i1 i2 i3 i4 i5 hk v n xs hown ⟨vb, 0, none⟩ 1 vc ys (by omega) hycell hy1 (by simp only [maxLen]; omega) hby (Nat.zero_le _)
    have hrun : ∀ ty, (Builtin.append_ #[T, T] ty #[v, .slice (some ⟨vb, 0, none⟩) 1 vc]).run P w = .ok v' w' := fun ty => r1
    obtain ⟨base, cap, rfl, hcap, hcap2⟩ : ∃ base cap, v = .slice base n cap ∧ n ≤ cap ∧ cap ≤ 9223372036854775807 := by
      rcases hown.2 with ⟨h1, h2⟩ | ⟨g, cap, cur, h1, _, _, h4, h5, _⟩
      · subst h2; exact ⟨none, 0, h1, Nat.le_refl _, by omega⟩
      · exact ⟨_, cap, h1, h4, by simpa [maxLen] using h5⟩
    subst hi
    refine (hW.atEnd base i cap vb vc w w' v' hcap hcap2 hrun).mono ?_
    rintro e' w2 ⟨rfl, rfl⟩
    exact ⟨v', rfl, hfin _ _ r2 rfl, r3, r5.imp id fun h => ⟨_, h, Nat.le_refl _⟩⟩
  · have hlt : i < n := by omega
    obtain ⟨g, cap, cur, rfl, _, hcur, hncap, hmax, hcs, hxs⟩ : ∃ g cap cur, v = .slice (some ⟨g, 0, none⟩) n cap ∧ 0 ≤ g ∧ w.heap[g]? = some (.cells cur e (0, 0)) ∧ n ≤ cap ∧ cap ≤ maxLen ∧ cur.size = cap * k ∧ cur.toList.take (n * k) = xs := by
      rcases hown.2 with ⟨h1, h2⟩ | h
      · omega
      · exact h
    have hgv : g ≠ vb := fun h => hne (by simp [Value.ownBlock, h])
    have hxl : xs.length = n * k := hown.1
    have hik : i * k + k ≤ n * k := by rw [← Nat.succ_mul]; exact Nat.mul_le_mul_right k hlt
    have hnk : n * k ≤ cap * k := Nat.mul_le_mul_right k hncap
    have hcl : cur.toList.length = cap * k := by simpa using hcs
    have hxget : ∀ j, j < n * k → cur.toList[j]? = xs[j]? := fun j hj => by rw [← hxs, List.getElem?_take_of_lt hj]
    -- the tail that moves up
    have htl : (xs.drop (i * k)).length = (n - i) * k := by rw [List.length_drop, hxl, Nat.sub_mul]
    have htcell : ∀ (W : World), W.heap[g]? = some (.cells cur e (0, 0)) → ∀ j u, (xs.drop (i * k))[j]? = some u → W.cell? ((⟨g, i * k, none⟩ : Addr).add j) = some u := fun W hWg j u hj => by
      rw [Addr.add_lit, cell_of hWg, ← Array.getElem?_toList]
      have hjl : j < (n - i) * k := by rw [← htl]; exact (List.getElem?_eq_some_iff.1 hj).1
      rw [Nat.sub_mul] at hjl
      rw [hxget _ (by omega), ← List.getElem?_drop]; exact hj
    have ht1 : ∀ u ∈ xs.drop (i * k), u.oneCell' = true := fun u hu => hx1 u (List.mem_of_mem_drop hu)
    have hi1k : (i + 1) * k = i * k + k := Nat.succ_mul i k
    have hn1k : (n + 1) * k = n * k + k := Nat.succ_mul n k
    have hmk : (n - i) * k = n * k - i * k := Nat.sub_mul n i k
    -- what two splices make of a list
    have final : ∀ (L : List Value) (m : Nat), (n + 1) * k ≤ L.length → (∀ j, j < i * k → L[j]? = xs[j]?) →
        (((L.take ((i + 1) * k) ++ xs.drop (i * k) ++ L.drop ((i + 1) * k + (xs.drop (i * k)).length)).take (i * k) ++ ys ++ (L.take ((i + 1) * k) ++ xs.drop (i * k) ++ L.drop ((i + 1) * k + (xs.drop (i * k)).length)).drop (i * k + ys.length)).take ((n + 1) * k) = xs.take (i * k) ++ ys ++ xs.drop (i * k)) := fun L m hL hLx => by
      have e1 : (i + 1) * k + (xs.drop (i * k)).length ≤ L.length := by rw [htl]; omega
      have e2 : i * k + ys.length ≤ (L.take ((i + 1) * k) ++ xs.drop (i * k) ++ L.drop ((i + 1) * k + (xs.drop (i * k)).length)).length := by rw [splice_len _ _ _ e1]; omega
      apply List.ext_getElem?
      intro j
      by_cases hj : j < (n + 1) * k
      · rw [List.getElem?_take_of_lt hj, splice_at _ _ _ _ e2, splice_at _ _ _ _ e1, htl, hyl]
        have hxt : (xs.take (i * k)).length = i * k := by simp; omega
        by_cases h1 : j < i * k
        · rw [if_pos h1, if_pos (by omega), hLx j h1, List.append_assoc, List.getElem?_append_left (by omega), List.getElem?_take_of_lt h1]
        · rw [if_neg h1]
          by_cases h2 : j < i * k + k
          · rw [if_pos h2, List.getElem?_append_left (by rw [List.length_append]; omega), List.getElem?_append_right (by omega), hxt]
          · rw [if_neg h2, if_neg (by omega), if_pos (by omega), List.getElem?_append_right (by rw [List.length_append]; omega)]
            congr 1
            rw [List.length_append]; omega
      · rw [List.getElem?_eq_none (by rw [List.length_take]; omega), List.getElem?_eq_none (by rw [List.length_append, List.length_append, List.length_take, htl]; omega)]
    by_cases hroom : n + 1 ≤ cap
    · -- in place
      have hrk : (n + 1) * k ≤ cap * k := Nat.mul_le_mul_right k hroom
      let L1 := cur.toList.take ((i + 1) * k) ++ xs.drop (i * k) ++ cur.toList.drop ((i + 1) * k + (xs.drop (i * k)).length)
      have hL1 : L1.length = cap * k := by show (cur.toList.take ((i + 1) * k) ++ xs.drop (i * k) ++ cur.toList.drop ((i + 1) * k + (xs.drop (i * k)).length)).length = _; rw [splice_len _ _ _ (by rw [htl]; omega), hcl]
      let W1 := w.drew.setRow g L1.toArray
      have hW1g : W1.heap[g]? = some (.cells L1.toArray e (0, 0)) := setRow_at (w := w.drew) (g := g) hcur L1.toArray
      have hmin1 : Nat.min (n + 1 - i) (n - i) = n - i := Nat.min_eq_right (by omega)
      have hcp1 : ∀ ty dc sc, (Builtin.copy_ #[T, T] ty #[.slice (some ⟨g, (i + 1) * k, none⟩) (n - i) dc, .slice (some ⟨g, i * k, none⟩) (n + 1 - i) sc]).run P w.drew = .ok (goInt (n - i : Nat)) W1 := fun ty dc sc => by
        have := run_copy_k (P := P) w.drew T ty e k g ((i + 1) * k) (n - i) dc ⟨g, i * k, none⟩ (n + 1 - i) sc cur e (xs.drop (i * k)) hT hsz hcur (by rw [htl, hmin1]) (htcell w.drew hcur) (by rw [htl, hcs]; omega) ht1
        rw [hmin1] at this
        exact this
      let L2 := L1.take (i * k) ++ ys ++ L1.drop (i * k + ys.length)
      let W2 := W1.setRow g L2.toArray
      have hmin2 : Nat.min 1 (n + 1 - i) = 1 := Nat.min_eq_left (by omega)
      have hvb1 : W1.heap[vb]? = some (.cells arr te (0, 0)) := (setRow_ne (w := w.drew) _ (Ne.symm hgv)).trans hvb
      have hcp2 : ∀ ty dc, (Builtin.copy_ #[T, T] ty #[.slice (some ⟨g, i * k, none⟩) (n + 1 - i) dc, .slice (some ⟨vb, 0, none⟩) 1 vc]).run P W1 = .ok (goInt 1) W2 := fun ty dc => by
        have := run_copy_k (P := P) W1 T ty e k g (i * k) (n + 1 - i) dc ⟨vb, 0, none⟩ 1 vc L1.toArray e ys hT hsz hW1g (by rw [hmin2, hyl]; omega) (fun j u hj => by
          have := hycell j u hj
          rw [Addr.add_lit] at this ⊢
          rw [cell_of hvb1]; rw [cell_of hvb] at this; exact this) (by rw [List.size_toArray, hL1, hyl]; omega) hy1
        rw [hmin2] at this
        exact this
      have hcapL : cap ≤ 9223372036854775807 := by simpa [maxLen] using hmax
      have hshape : ∀ {b : Nat} {c : Array Value} {t : TypeId}, w.heap[b]? = some (.cells c t (0, 0)) → w.shape? b = some (t, c.size) := fun h => by simp [World.shape?, h]
      have hfz : ∀ {b off : Nat} {c : Array Value} {t : TypeId}, w.heap[b]? = some (.cells c t (0, 0)) → w.frozen? ⟨b, off, none⟩ = false := fun h => by simp [World.frozen?, h]
      refine (hW.shift g n cap i vb vc w W1 W2 hlt hroom hcapL (fun lb cb => hov w ⟨vb, 0, none⟩ ⟨g, (i + 1) * k, none⟩ 1 vc lb cb (Ne.symm hgv) te e arr.size cur.size (hshape hvb) (hshape hcur) (by rw [hcs]; omega) (hfz hvb) (hfz hvb)) hcp1 hcp2).mono ?_
      rintro e' w2 ⟨rfl, rfl⟩
      have hW2g : W2.heap[g]? = some (.cells L2.toArray e (0, 0)) := setRow_at hW1g L2.toArray
      have hL2 : L2.length = cap * k := by show (L1.take (i * k) ++ ys ++ L1.drop (i * k + ys.length)).length = _; rw [splice_len _ _ _ (by rw [hL1, hyl]; omega), hL1]
      refine ⟨_, rfl, ⟨by rw [List.length_append, List.length_append, List.length_take, htl, hyl]; omega, .inr ⟨g, cap, L2.toArray, rfl, Nat.zero_le _, hW2g, hroom, hmax, by rw [List.size_toArray, hL2], ?_⟩⟩, ⟨rfl, rfl, rfl, ?_, fun b hb hbne => ?_⟩, .inl rfl⟩
      · exact final cur.toList 0 (by rw [hcl]; omega) (fun j hj => hxget j (by omega))
      · show w.heap.size ≤ (W1.setRow g _).heap.size
        rw [setRow_size]
        show w.heap.size ≤ (w.drew.setRow g _).heap.size
        rw [setRow_size]
        exact Nat.le_refl _
      · have hbg : b ≠ g := fun h => hbne (by simp [Value.ownBlock, h])
        exact (setRow_ne _ hbg).trans (setRow_ne (w := w.drew) _ hbg)
    · -- a new row
      have hceq : cap = n := by omega
      have hcapL : cap ≤ 4611686018427387904 := by omega
      let g2 := w.heap.size
      have hgl : g < w.heap.size := (Array.getElem?_eq_some_iff.1 hcur).1
      have hgg : g ≠ g2 := by show g ≠ w.heap.size; omega
      have hvl : vb < w.heap.size := (Array.getElem?_eq_some_iff.1 hvb).1
      have hvg : vb ≠ g2 := by show vb ≠ w.heap.size; omega
      let cap2 := grownCap w (n + 1) cap e
      have hc2 : n + 1 ≤ cap2 := grownCap_ge w (n + 1) cap e
      have hc2m : cap2 ≤ maxLen := grownCap_le_maxLen w (n + 1) cap e (by simp only [maxLen]; omega)
      have hxt : (xs.take (i * k)).length = i * k := by simp; omega
      let L0 := xs.take (i * k) ++ (Builtin.zeroCells z.cells (n + 1 - i)).toList ++ (Builtin.zeroCells z.cells (cap2 - (n + 1))).toList
      have hL0 : L0.length = cap2 * k := by
        show (xs.take (i * k) ++ (Builtin.zeroCells z.cells (n + 1 - i)).toList ++ (Builtin.zeroCells z.cells (cap2 - (n + 1))).toList).length = _
        rw [List.length_append, List.length_append, hxt, Array.length_toList, Array.length_toList, size_zeroCells, size_zeroCells, i5, Nat.sub_mul, Nat.sub_mul, hn1k]
        have : n * k + k ≤ cap2 * k := by rw [← Nat.succ_mul]; exact Nat.mul_le_mul_right k hc2
        omega
      let w1 := w.drew.alloc (.cells L0.toArray e)
      have hw1g2 : w1.heap[g2]? = some (.cells L0.toArray e (0, 0)) := heap_alloc_at w.drew _
      have hold : ∀ {b : Nat}, b < w.heap.size → w1.heap[b]? = w.heap[b]? := fun hb => heap_alloc_lt (w := w.drew) hb
      have happ : ∀ ty, (Builtin.append_ #[T, 3] ty #[.slice (some ⟨g, 0, none⟩) i cap, .int .i64 ((n : Int) + 1 - i)]).run P w = .ok (.slice (some ⟨g2, 0, none⟩) (n + 1) cap2) w1 := fun ty => by
        have hold0 : (Builtin.firstCells ti.size i (.slice (some ⟨g, 0, none⟩) i cap)).run P w.drew = .ok (xs.take (i * k)).toArray w.drew := by
          have hl := run_loadCells_list (P := P) w.drew ⟨g, 0, none⟩ (xs.take (i * k)) (fun j u hj => by
            rw [Addr.add_lit, Nat.zero_add, cell_of (w := w.drew) (e := e) (fr := (0, 0)) hcur, ← Array.getElem?_toList]
            have hjl : j < i * k := by rw [← hxt]; exact (List.getElem?_eq_some_iff.1 hj).1
            rw [List.getElem?_take_of_lt hjl] at hj
            rw [hxget _ (by omega)]; exact hj)
          rw [hxt] at hl
          simp only [Builtin.firstCells, i3, hl]
        have := Go.Lib.run_append_grow_zeros (P := P) w T 3 ty e ti z .i64 .i64 hT h3 i1 i2 (some ⟨g, 0, none⟩) i cap (xs.take (i * k)) hold0 (n + 1 - i) (by omega) (by rw [i3]; exact hk) (by omega) (by omega) (by
          rw [i4]
          have : (n + 1 - i) * bytes ≤ (n + 1) * bytes := Nat.mul_le_mul_right _ (by omega)
          omega) (by
          rw [show i + (n + 1 - i) = n + 1 by omega, i4]
          exact growslice_fits (by omega) hby)
        rw [show i + (n + 1 - i) = n + 1 by omega, show (((n + 1 - i : Nat)) : Int) = (n : Int) + 1 - i by omega] at this
        rw [this]
        congr 2
        show _ = Obj.cells L0.toArray e
        congr 1
        apply Array.toList_inj.1
        simp [L0, cap2]
      let L1 := L0.take (i * k) ++ ys ++ L0.drop (i * k + ys.length)
      have hik2 : i * k + k ≤ cap2 * k := by have : n * k + k ≤ cap2 * k := by rw [← Nat.succ_mul]; exact Nat.mul_le_mul_right k hc2
                                             omega
      have hL1 : L1.length = cap2 * k := by show (L0.take (i * k) ++ ys ++ L0.drop (i * k + ys.length)).length = _; rw [splice_len _ _ _ (by rw [hL0, hyl]; omega), hL0]
      let w2 := w1.setRow g2 L1.toArray
      have hmin2 : Nat.min 1 (n + 1 - i) = 1 := Nat.min_eq_left (by omega)
      have hvb1 : w1.heap[vb]? = some (.cells arr te (0, 0)) := (hold hvl).trans hvb
      have hcp1 : ∀ ty dc, (Builtin.copy_ #[T, T] ty #[.slice (some ⟨g2, i * k, none⟩) (n + 1 - i) dc, .slice (some ⟨vb, 0, none⟩) 1 vc]).run P w1 = .ok (goInt 1) w2 := fun ty dc => by
        have := run_copy_k (P := P) w1 T ty e k g2 (i * k) (n + 1 - i) dc ⟨vb, 0, none⟩ 1 vc L0.toArray e ys hT hsz hw1g2 (by rw [hmin2, hyl]; omega) (fun j u hj => by
          have := hycell j u hj
          rw [Addr.add_lit] at this ⊢
          rw [cell_of hvb1]; rw [cell_of hvb] at this; exact this) (by rw [List.size_toArray, hL0, hyl]; omega) hy1
        rw [hmin2] at this
        exact this
      have hw2g2 : w2.heap[g2]? = some (.cells L1.toArray e (0, 0)) := setRow_at hw1g2 L1.toArray
      have hw2g : w2.heap[g]? = some (.cells cur e (0, 0)) := (setRow_ne _ hgg).trans ((hold hgl).trans hcur)
      let L2 := L1.take ((i + 1) * k) ++ xs.drop (i * k) ++ L1.drop ((i + 1) * k + (xs.drop (i * k)).length)
      let w3 := w2.drew.setRow g2 L2.toArray
      have hmin1 : Nat.min (n - i) (n - i) = n - i := Nat.min_self _
      have hnc : n * k + k ≤ cap2 * k := by rw [← Nat.succ_mul]; exact Nat.mul_le_mul_right k hc2
      have hcp2 : ∀ ty dc sc, (Builtin.copy_ #[T, T] ty #[.slice (some ⟨g2, (i + 1) * k, none⟩) (n - i) dc, .slice (some ⟨g, i * k, none⟩) (n - i) sc]).run P w2.drew = .ok (goInt (n - i : Nat)) w3 := fun ty dc sc => by
        have := run_copy_k (P := P) w2.drew T ty e k g2 ((i + 1) * k) (n - i) dc ⟨g, i * k, none⟩ (n - i) sc L1.toArray e (xs.drop (i * k)) hT hsz hw2g2 (by rw [htl, hmin1]) (htcell w2.drew hw2g) (by rw [htl, List.size_toArray, hL1]; omega) ht1
        rw [hmin1] at this
        exact this
      refine (hW.grow g n cap i vb vc g2 cap2 w w1 w2 w3 hlt hncap (by omega) hcapL hc2 happ hcp1 hcp2).mono ?_
      rintro e' w4 ⟨rfl, rfl⟩
      have hw3g : w3.heap[g2]? = some (.cells L2.toArray e (0, 0)) := setRow_at (w := w2.drew) hw2g2 L2.toArray
      have hL2 : L2.length = cap2 * k := by show (L1.take ((i + 1) * k) ++ xs.drop (i * k) ++ L1.drop ((i + 1) * k + (xs.drop (i * k)).length)).length = _; rw [splice_len _ _ _ (by rw [hL1, htl]; omega), hL1]
      refine ⟨_, rfl, ⟨by rw [List.length_append, List.length_append, List.length_take, htl, hyl]; omega, .inr ⟨g2, cap2, L2.toArray, rfl, Nat.zero_le _, hw3g, hc2, hc2m, by rw [List.size_toArray, hL2], ?_⟩⟩, ⟨rfl, rfl, rfl, ?_, fun b hb hbne => ?_⟩, .inr ⟨g2, rfl, Nat.le_refl _⟩⟩
      · show L2.take ((n + 1) * k) = _
        apply List.ext_getElem?
        intro j
        by_cases hj : j < (n + 1) * k
        · rw [List.getElem?_take_of_lt hj]
          show (L1.take ((i + 1) * k) ++ xs.drop (i * k) ++ L1.drop ((i + 1) * k + (xs.drop (i * k)).length))[j]? = _
          rw [splice_at _ _ _ _ (by rw [hL1, htl]; omega), htl]
          have hl1 : ∀ j, L1[j]? = if j < i * k then L0[j]? else if j < i * k + k then ys[j - i * k]? else L0[j]? := fun j => by
            show (L0.take (i * k) ++ ys ++ L0.drop (i * k + ys.length))[j]? = _
            rw [splice_at _ _ _ _ (by rw [hL0, hyl]; omega), hyl]
          by_cases h1 : j < i * k
          · rw [if_pos (by omega), hl1, if_pos h1]
            show (xs.take (i * k) ++ _ ++ _)[j]? = _
            rw [List.append_assoc, List.getElem?_append_left (by omega), List.append_assoc, List.getElem?_append_left (by omega)]
          · by_cases h2 : j < i * k + k
            · rw [if_pos (by omega), hl1, if_neg h1, if_pos h2, List.getElem?_append_left (by rw [List.length_append]; omega), List.getElem?_append_right (by omega), hxt]
            · rw [if_neg (by omega), if_pos (by omega), List.getElem?_append_right (by rw [List.length_append]; omega)]
              congr 1
              rw [List.length_append]; omega
        · rw [List.getElem?_eq_none (by rw [List.length_take]; omega), List.getElem?_eq_none (by rw [List.length_append, List.length_append, List.length_take, htl]; omega)]
      · show w.heap.size ≤ (w2.drew.setRow g2 _).heap.size
        rw [setRow_size]
        show w.heap.size ≤ (w1.setRow g2 _).heap.size
        rw [setRow_size]
        show w.heap.size ≤ (w.drew.alloc _).heap.size
        rw [size_alloc']
        exact Nat.le_succ _
      · have hbg : b ≠ g2 := by show b ≠ w.heap.size; omega
        exact (setRow_ne (w := w2.drew) _ hbg).trans ((setRow_ne _ hbg).trans (hold hb))
end
end Go.Awp
set_option linter.unusedSimpArgs false
set_option linter.unusedVariables false
namespace Go.Awp
open Go.RowKit
section
variable {P : Program} {ops : Array Oper} {G : Call0} {o : Oper} {m : St}
def DelSpec (P : Program) (f e k : Nat) : Prop := ∀ (w : World) (v : Value) (n i : Nat) (xs : List Value), w.ownsRow 0 e k v n xs → (∀ u ∈ xs, u.oneCell' = true) → i < n →
  Calls P f #[v, .int .i64 i, .int .i64 ((i : Int) + 1)] w fun e' w' => ∃ v', e' = .returned v' ∧ w'.ownsRow 0 e k v' (n - 1) (xs.take (i * k) ++ xs.drop ((i + 1) * k)) ∧ w.grownBy w' v.ownBlock ∧ v'.ownBlock = v.ownBlock
theorem run_clear_row {w : World} {T ty e k g i n c : Nat} {cur : Array Value} {z : Value} (hT : P.underlying T = some (.slice e)) (hz : ∀ w, (zeroValue e).run P w = .ok z w) (hzk : z.cells.size = k) (hz1 : ∀ u ∈ z.cells.toList, u.oneCell' = true)
    (hg : w.heap[g]? = some (.cells cur e (0, 0))) (hfit : i + k ≤ cur.size) :
    (Builtin.clear_ #[T] ty #[.slice (some ⟨g, i, none⟩) 1 c]).run P w = .ok (.tuple #[]) (w.setRow g (cur.toList.take i ++ z.cells.toList ++ cur.toList.drop (i + k)).toArray) := by
  have hzc : (Builtin.zeroCells z.cells 1).toList = z.cells.toList := by
    apply List.ext_getElem
    · simp [size_zeroCells]
    · intro j h1 h2
      have hj : j < z.cells.size := by simpa using h2
      simp [Builtin.zeroCells, Nat.mod_eq_of_lt hj, hj]
  have hst := run_storeCells_at P g i e z.cells.toList 0 cur w hg (by simp [hzk]; omega) hz1
  simp only [Nat.add_zero, Array.length_toList, hzk] at hst
  simp [Builtin.clear_, run_underlying hT, hz, hzc, hst]
theorem delSpec {f T e k : Nat} {z : Value} (hW : DelW P f T k) (hT : P.underlying T = some (.slice e)) {bytes : Nat} (hE : ElemT P e k bytes) (hz : ∀ w, (zeroValue e).run P w = .ok z w) (hzk : z.cells.size = k) (hz1 : ∀ u ∈ z.cells.toList, u.oneCell' = true) : DelSpec P f e k := by
  intro w v n i xs hown hx1 hi
  obtain ⟨ti, z', i1, i2, i3, i4, i5⟩ := hE.info
  have hk := hE.pos
  obtain ⟨g, cap, cur, rfl, _, hcur, hncap, hmax, hcs, hxs⟩ : ∃ g cap cur, v = .slice (some ⟨g, 0, none⟩) n cap ∧ 0 ≤ g ∧ w.heap[g]? = some (.cells cur e (0, 0)) ∧ n ≤ cap ∧ cap ≤ maxLen ∧ cur.size = cap * k ∧ cur.toList.take (n * k) = xs := by
    rcases hown.2 with ⟨h1, h2⟩ | h
    · omega
    · exact h
  have hxl : xs.length = n * k := hown.1
  have hi1k : (i + 1) * k = i * k + k := Nat.succ_mul i k
  have hik : i * k + k ≤ n * k := by rw [← Nat.succ_mul]; exact Nat.mul_le_mul_right k hi
  have hnk : n * k ≤ cap * k := Nat.mul_le_mul_right k hncap
  have hn1 : (n - 1) * k = n * k - k := by rw [Nat.sub_mul, Nat.one_mul]
  have hcl : cur.toList.length = cap * k := by simpa using hcs
  have hxget : ∀ j, j < n * k → cur.toList[j]? = xs[j]? := fun j hj => by rw [← hxs, List.getElem?_take_of_lt hj]
  have htl : (xs.drop ((i + 1) * k)).length = (n - (i + 1)) * k := by rw [List.length_drop, hxl, Nat.sub_mul]
  have hmk : (n - (i + 1)) * k = n * k - (i * k + k) := by rw [Nat.sub_mul, hi1k]
  let L1 := cur.toList.take (i * k) ++ xs.drop ((i + 1) * k) ++ cur.toList.drop (i * k + (xs.drop ((i + 1) * k)).length)
  have hL1 : L1.length = cap * k := by show (cur.toList.take (i * k) ++ xs.drop ((i + 1) * k) ++ cur.toList.drop (i * k + (xs.drop ((i + 1) * k)).length)).length = _; rw [splice_len _ _ _ (by rw [htl, hmk, hcl]; omega), hcl]
  let w1 := w.drew.setRow g L1.toArray
  have hw1 : w1.heap[g]? = some (.cells L1.toArray e (0, 0)) := setRow_at (w := w.drew) hcur L1.toArray
  let L2 := L1.take ((n - 1) * k) ++ z.cells.toList ++ L1.drop ((n - 1) * k + z.cells.toList.length)
  have hzl : z.cells.toList.length = k := by simpa using hzk
  have hL2 : L2.length = cap * k := by show (L1.take ((n - 1) * k) ++ z.cells.toList ++ L1.drop ((n - 1) * k + z.cells.toList.length)).length = _; rw [splice_len _ _ _ (by rw [hzl, hn1, hL1]; omega), hL1]
  let w2 := w1.setRow g L2.toArray
  have hw2 : w2.heap[g]? = some (.cells L2.toArray e (0, 0)) := setRow_at hw1 L2.toArray
  have happ : ∀ ty a c, cap = i + 1 ∨ a = (⟨g, (i + 1) * k, none⟩ : Addr) → (Builtin.append_ #[T, T] ty #[.slice (some ⟨g, 0, none⟩) i cap, .slice (some a) (n - (i + 1)) c]).run P w.drew = .ok (.slice (some ⟨g, 0, none⟩) (n - 1) cap) w1 := fun ty a c ha => by
    have := run_append_room (P := P) w.drew T ty e ti hT i1 g i cap cur hcur a (n - (i + 1)) c (xs.drop ((i + 1) * k)) (by rw [htl, i3]) (fun j u hj => by
      rcases ha with ha | rfl
      · have hjl := (List.getElem?_eq_some_iff.1 hj).1
        rw [htl, show n - (i + 1) = 0 by omega] at hjl
        omega
      · rw [Addr.add_lit, cell_of (w := w.drew) hcur, ← Array.getElem?_toList]
        have hjl : j < (n - (i + 1)) * k := by rw [← htl]; exact (List.getElem?_eq_some_iff.1 hj).1
        rw [hxget _ (by omega), ← List.getElem?_drop]; exact hj) (fun u hu => hx1 u (List.mem_of_mem_drop hu)) (by omega) (by rw [i3, htl, hmk, hcs]; omega)
    rw [i3, show i + (n - (i + 1)) = n - 1 by omega] at this
    exact this
  have hclr : ∀ ty c, (Builtin.clear_ #[T] ty #[.slice (some ⟨g, (n - 1) * k, none⟩) 1 c]).run P w1 = .ok (.tuple #[]) w2 := fun ty c => by
    have := run_clear_row (P := P) (w := w1) (T := T) (ty := ty) (g := g) (i := (n - 1) * k) (n := n) (c := c) hT hz hzk hz1 hw1 (by rw [List.size_toArray, hL1, hn1]; omega)
    rw [this]
    show _ = Result.ok _ (w1.setRow g (L1.take ((n - 1) * k) ++ z.cells.toList ++ L1.drop ((n - 1) * k + z.cells.toList.length)).toArray)
    rw [hzl]
  refine (hW.del g n cap i _ w w1 w2 hi hncap (by simpa [maxLen] using hmax) happ hclr).mono ?_
  rintro e' w' ⟨rfl, rfl⟩
  refine ⟨_, rfl, ⟨by rw [List.length_append, List.length_take, htl, hmk, hn1]; omega, .inr ⟨g, cap, L2.toArray, rfl, Nat.zero_le _, hw2, by omega, hmax, by rw [List.size_toArray, hL2], ?_⟩⟩, ⟨rfl, rfl, rfl, ?_, fun b hb hbne => ?_⟩, rfl⟩
  · show L2.take ((n - 1) * k) = _
    have h2 : L2.take ((n - 1) * k) = L1.take ((n - 1) * k) := by
      show (L1.take ((n - 1) * k) ++ z.cells.toList ++ L1.drop ((n - 1) * k + z.cells.toList.length)).take ((n - 1) * k) = _
      have hl : (L1.take ((n - 1) * k)).length = (n - 1) * k := by rw [List.length_take, hL1, hn1]; omega
      rw [List.append_assoc, List.take_append_of_le_length (by rw [hl]; exact Nat.le_refl _), List.take_of_length_le (by rw [hl]; exact Nat.le_refl _)]
    rw [h2]
    show (cur.toList.take (i * k) ++ xs.drop ((i + 1) * k) ++ cur.toList.drop (i * k + (xs.drop ((i + 1) * k)).length)).take ((n - 1) * k) = _
    have e1 : cur.toList.take (i * k) = xs.take (i * k) := by
      rw [← hxs, List.take_take, Nat.min_eq_left (by omega)]
    rw [e1]
    have hl : (xs.take (i * k) ++ xs.drop ((i + 1) * k)).length = (n - 1) * k := by rw [List.length_append, List.length_take, htl, hmk, hn1]; omega
    rw [List.take_append_of_le_length (by rw [hl]; exact Nat.le_refl _), List.take_of_length_le (by rw [hl]; exact Nat.le_refl _)]
  · show w.heap.size ≤ (w1.setRow g _).heap.size
    rw [setRow_size]
    show w.heap.size ≤ (w.drew.setRow g _).heap.size
    rw [setRow_size]
    exact Nat.le_refl _
  · have hbg : b ≠ g := fun h => hbne (by simp [Value.ownBlock, h])
    exact (setRow_ne _ hbg).trans (setRow_ne (w := w.drew) _ hbg)
def RCells (ok : Nat → Prop) (w : World) (k : Nat) (es : List (List D)) (xs : List Value) : Prop := xs.length = es.length * k ∧ ∀ (y j : Nat) (ds : List D) (d : D), es[y]? = some ds → ds[j]? = some d → ∃ u, xs[y * k + j]? = some u ∧ RepD ok w u d
theorem lt_mul {y n j k : Nat} (hy : y < n) (hj : j < k) : y * k + j < n * k := by
  have : y * k + k ≤ n * k := by rw [← Nat.succ_mul]; exact Nat.mul_le_mul_right k hy
  omega
theorem RCells.append {ok : Nat → Prop} {w : World} {k : Nat} {es es' : List (List D)} {xs xs' : List Value} (h : RCells ok w k es xs) (h' : RCells ok w k es' xs') : RCells ok w k (es ++ es') (xs ++ xs') := by
  refine ⟨by rw [List.length_append, List.length_append, h.1, h'.1, Nat.add_mul], fun y j ds d hy hj => ?_⟩
  by_cases hy1 : y < es.length
  · rw [List.getElem?_append_left hy1] at hy
    obtain ⟨u, hu1, hu2⟩ := h.2 y j ds d hy hj
    exact ⟨u, by rw [List.getElem?_append_left (List.getElem?_eq_some_iff.1 hu1).1]; exact hu1, hu2⟩
  · rw [List.getElem?_append_right (by omega)] at hy
    obtain ⟨u, hu1, hu2⟩ := h'.2 _ j ds d hy hj
    have hge : es.length * k ≤ y * k := Nat.mul_le_mul_right k (by omega)
    refine ⟨u, ?_, hu2⟩
    rw [List.getElem?_append_right (by rw [h.1]; omega), h.1, show y * k + j - es.length * k = (y - es.length) * k + j by rw [Nat.sub_mul]; omega]; exact hu1
theorem RCells.take {ok : Nat → Prop} {w : World} {k : Nat} {es : List (List D)} {xs : List Value} (h : RCells ok w k es xs) (hk : ∀ e ∈ es, e.length = k) (i : Nat) (hi : i ≤ es.length) : RCells ok w k (es.take i) (xs.take (i * k)) := by
  refine ⟨by rw [List.length_take, List.length_take, h.1, Nat.min_eq_left hi, Nat.min_eq_left (Nat.mul_le_mul_right k hi)], fun y j ds d hy hj => ?_⟩
  have hyl := (List.getElem?_eq_some_iff.1 hy).1
  rw [List.length_take] at hyl
  rw [List.getElem?_take_of_lt (by omega)] at hy
  obtain ⟨u, hu1, hu2⟩ := h.2 y j ds d hy hj
  have hjk : j < k := by rw [← hk ds (List.mem_of_getElem? hy)]; exact (List.getElem?_eq_some_iff.1 hj).1
  exact ⟨u, by rw [List.getElem?_take_of_lt (lt_mul (by omega) hjk)]; exact hu1, hu2⟩
theorem RCells.drop {ok : Nat → Prop} {w : World} {k : Nat} {es : List (List D)} {xs : List Value} (h : RCells ok w k es xs) (i : Nat) : RCells ok w k (es.drop i) (xs.drop (i * k)) := by
  refine ⟨by rw [List.length_drop, List.length_drop, h.1, Nat.sub_mul], fun y j ds d hy hj => ?_⟩
  rw [List.getElem?_drop] at hy
  obtain ⟨u, hu1, hu2⟩ := h.2 _ j ds d hy hj
  exact ⟨u, by rw [List.getElem?_drop, ← Nat.add_assoc, ← Nat.add_mul]; exact hu1, hu2⟩
theorem RCells.one {ok : Nat → Prop} {w : World} {k : Nat} {es : List (List D)} {xs : List Value} (h : RCells ok w k es xs) (hk : ∀ e ∈ es, e.length = k) (h1 : ∀ e ∈ es, ∀ d ∈ e, d.one = true) : ∀ u ∈ xs, u.oneCell' = true := fun u hu => by
  obtain ⟨i, hi0, rfl⟩ := List.mem_iff_getElem.1 hu
  have hi := hi0
  rw [h.1] at hi
  have hk0 : 0 < k := by rcases Nat.eq_zero_or_pos k with h | h <;> first | exact h | (subst h; simp at hi)
  have hdiv : i / k < es.length := (Nat.div_lt_iff_lt_mul hk0).2 hi
  have hl := hk es[i / k] (by simp)
  obtain ⟨u, hu1, hu2⟩ := h.2 (i / k) (i % k) es[i / k] (es[i / k][i % k]'(by rw [hl]; exact Nat.mod_lt _ hk0)) (by simp) (by simp)
  rw [Nat.mul_comm, Nat.div_add_mod] at hu1
  rw [List.getElem?_eq_getElem hi0] at hu1
  simp only [Option.some.injEq] at hu1
  rw [hu1]
  exact repD_one hu2 (h1 _ (List.getElem_mem _) _ (List.getElem_mem _))
theorem RCells.rowIn {ok : Nat → Prop} {w : World} {k n : Nat} {es : List (List D)} {xs : List Value} {arr : Array Value} (h : RCells ok w k es xs) (hk : ∀ e ∈ es, e.length = k) (ha : arr.toList.take (n * k) = xs) (hn : n = es.length) : RowIn ok w arr k es := fun y ds hy => by
  refine ⟨hk ds (List.mem_of_getElem? hy), fun j d hj => ?_⟩
  have hjk : j < k := by rw [← hk ds (List.mem_of_getElem? hy)]; exact (List.getElem?_eq_some_iff.1 hj).1
  obtain ⟨u, hu1, hu2⟩ := h.2 y j ds d hy hj
  rw [← ha, List.getElem?_take_of_lt (by rw [hn]; exact lt_mul (List.getElem?_eq_some_iff.1 hy).1 hjk), Array.getElem?_toList] at hu1
  exact ⟨u, hu1, hu2⟩
/-- A row of the call's own, as the laws of appending want it. -/
theorem row_owned {φ : Phi} {a : Act} {w : World} {id k : Nat} {fz : Bool} {e : TypeId} {es : List (List D)} {v : Value} (h : RR G φ m a w) (hb : m (.b id) = .row fz e k es) (hv : RepV φ (okOf G φ m w) w v (.own id k es.length)) (hk : ∀ e ∈ es, e.length = k) :
    ∃ xs : List Value, w.ownsRow 0 e k v es.length xs ∧ RCells (okOf G φ m w) w k es xs := by
  rcases row_at h hb with ⟨g1, g2⟩ | ⟨b, cap, arr, g1, g2, g3, g4, g5, g6⟩
  · subst g2
    rcases own_inv hv with ⟨hφ, rfl, _⟩ | ⟨b', c, hφ, rfl, hle⟩
    · exact ⟨[], ⟨by simp, .inl ⟨rfl, rfl⟩⟩, by simp, fun y j ds d hy => by simp at hy⟩
    · rw [g1] at hφ; cases hφ
  · generalize hn : es.length = n at hv g4
    rcases own_inv hv with ⟨hφ, rfl, _⟩ | ⟨b', c, hφ, rfl, hle⟩
    · rw [g1] at hφ; cases hφ
    · rw [g1] at hφ
      simp only [Option.some.injEq, Prod.mk.injEq] at hφ
      obtain ⟨rfl, rfl⟩ := hφ
      have hle2 : n * k ≤ arr.size := by rw [g3]; exact Nat.mul_le_mul_right k g4
      refine ⟨arr.toList.take (n * k), ⟨by simp; omega, .inr ⟨b, cap, arr, rfl, Nat.zero_le _, g2, hle, g5, g3, rfl⟩⟩, by rw [hn]; simp; omega, fun y j ds d hy hj => ?_⟩
      have hjk : j < k := by rw [← hk ds (List.mem_of_getElem? hy)]; exact (List.getElem?_eq_some_iff.1 hj).1
      have hyl : y < n := by rw [← hn]; exact (List.getElem?_eq_some_iff.1 hy).1
      obtain ⟨u, hu1, hu2⟩ := (g6 y ds hy).2 j d hj
      exact ⟨u, by rw [List.getElem?_take_of_lt (lt_mul hyl hjk), Array.getElem?_toList]; exact hu1, hu2⟩
/-- What a call that turns a row of the caller's own leaves. -/
theorem valid_turn {f d id id' k : Nat} {e : TypeId} {es es' : List (List D)} {c : Call} {x : Operand} {xs : Array Operand} {ls : List Loc} (hop : o.op = .call c) (hc : c.callee = .value (.func f)) (hxs : c.args = xs) (hen : ∀ args w, (callFunc f args).run P w = .ok (.enter f args) w)
    (hg : GOn ops o m) (hdst : o.dst = some d) (hd : d < G.nt) (hx : evO m x = .own id k es.length) (hb : m (.b id) = .row false e k es) (hid : m (.b id') = .nob)
    (hk' : ∀ e ∈ es', e.length = k) (hls : ∀ l ∈ lo x ++ [.b id, .b id'], l ∈ ls)
    (h : ∀ m' : St, (∀ l ∈ ls, m' l = m l) → ∀ φ a w, RR G φ m' a w → Calls P f (xs.map a.eval) w fun e' w' => ∃ v' ys, e' = .returned v' ∧ w'.ownsRow 0 e k v' es'.length ys ∧ w.grownBy w' (a.eval x).ownBlock ∧ (v'.ownBlock = (a.eval x).ownBlock ∨ ∃ g, v'.ownBlock = some g ∧ w.heap.size ≤ g) ∧ RCells (okOf G φ m' w) w k es' ys) :
    Valid P ops G o m ⟨gloc ops o ++ ls, [(.b id, .spent), (.b id', .row false e k es'), (.t d, .own id' k es'.length)]⟩ := by
  intro m' hm a w hr K Q hK
  obtain ⟨φ, hr⟩ := hr
  have hx' := hr.ev' (x := x) (fun l hl => hm l (by simp [hls l (by simp [hl])])) hx
  have hb' : m' (.b id) = .row false e k es := by rw [hm _ (by simp [hls (.b id) (by simp)])]; exact hb
  have hid' : m' (.b id') = .nob := by rw [hm _ (by simp [hls (.b id') (by simp)])]; exact hid
  unfold opGo
  rw [if_pos (hr.wanted (hg.congr fun l hl => hm l (by simp [hl])))]
  left
  unfold Oper.wp
  have hrun : (execOp a.eval o).run P w = .ok (.enter f (xs.map a.eval)) w := by simp [execOp, hop, resolve, hc, hxs, Deferred.ofValue, Act.eval, invoke, hen]
  rw [hrun]
  refine (h m' (fun l hl => hm l (by simp [hl])) φ a w hr).mono ?_
  rintro e' w' ⟨v', ys, rfl, h1, h2, h3, h4⟩
  obtain ⟨φ', q1, q2, q3⟩ := hr.appended (es' := es') (v' := v') hb' hid' hx' h2 h3 (by
    rcases h1.2 with ⟨c1, c2⟩ | ⟨g, cap, arr, c1, c2, c3, c4, c5, c6, c7⟩
    · exact .inl ⟨c1, List.eq_nil_of_length_eq_zero c2⟩
    · exact .inr ⟨g, cap, arr, c1, c3, c6, c4, c5, h4.rowIn hk' c7 rfl⟩)
  refine hK _ _ ⟨φ', ?_⟩
  rw [hdst]
  exact q1.put d hd q3
theorem v_insert {f d id id2 id' k bytes : Nat} {e e2 : TypeId} {fz : Bool} {es : List (List D)} {ds : List D} {i : Nat} {c : Call} {x y z : Operand} (hS : InsSpec P f e k bytes) (hop : o.op = .call c) (hc : c.callee = .value (.func f)) (hxs : c.args = #[x, y, z]) (hen : ∀ args w, (callFunc f args).run P w = .ok (.enter f args) w)
    (hg : GOn ops o m) (hdst : o.dst = some d) (hd : d < G.nt) (hx : evO m x = .own id k es.length) (hb : m (.b id) = .row false e k es) (hy : evO m y = iV (i : Int)) (hz : evO m z = .own id2 k 1) (hb2 : m (.b id2) = .row fz e2 k [ds]) (hid : m (.b id') = .nob) (hne : id ≠ id2) (hi : i ≤ es.length)
    (hk : ∀ e ∈ es, e.length = k) (h1 : ∀ e ∈ es, ∀ d ∈ e, d.one = true) (hkd : ds.length = k) (h1d : ∀ d ∈ ds, d.one = true) (hby : (es.length + 1) * bytes ≤ 140737488355328) (hmax : es.length ≤ 4611686018427387000) :
    Valid P ops G o m ⟨gloc ops o ++ (lo x ++ (lo y ++ (lo z ++ [.b id, .b id2, .b id']))), [(.b id, .spent), (.b id', .row false e k (es.take i ++ [ds] ++ es.drop i)), (.t d, .own id' k (es.take i ++ [ds] ++ es.drop i).length)]⟩ := by
  have hkd' : ∀ e ∈ [ds], e.length = k := fun e he => by rw [List.mem_singleton] at he; rw [he]; exact hkd
  refine valid_turn (x := x) hop hc hxs hen hg hdst hd hx hb hid (fun e he => ?_) (fun l hl => by simp at hl ⊢; rcases hl with h | h | h <;> simp [h]) fun m' hm φ a w hr => ?_
  · simp only [List.mem_append] at he
    rcases he with (he | he) | he
    · exact hk e (List.mem_of_mem_take he)
    · exact hkd' e he
    · exact hk e (List.mem_of_mem_drop he)
  · have hx' := hr.ev' (x := x) (fun l hl => hm l (by simp [hl])) hx
    have hz' := hr.ev' (x := z) (fun l hl => hm l (by simp [hl])) hz
    have hy' : a.eval y = .int .i64 i := hr.s (x := y) (fun l hl => hm l (by simp [hl])) hy
    have hb' : m' (.b id) = .row false e k es := by rw [hm _ (by simp)]; exact hb
    have hb2' : m' (.b id2) = .row fz e2 k [ds] := by rw [hm _ (by simp)]; exact hb2
    obtain ⟨xs, q1, q2⟩ := row_owned hr hb' hx' hk
    have q3 := q2.one hk h1
    rcases row_at hr hb2' with ⟨g1, g2⟩ | ⟨vb, cap, arr, g1, g2, g3, g4, g5, g6⟩
    · cases g2
    · rcases own_inv hz' with ⟨hφ, h2, h3⟩ | ⟨b', c', hφ, h2, hle⟩
      · cases h3
      · rw [g1] at hφ
        simp only [Option.some.injEq, Prod.mk.injEq] at hφ
        obtain ⟨rfl, rfl⟩ := hφ
        have hks : k ≤ arr.size := by
          rw [g3]
          have := Nat.mul_le_mul_right k g4
          simpa using this
        have hR : RCells (okOf G φ m' w) w k [ds] (arr.toList.take k) := ⟨by simp; omega, fun y j ds' d hy hj => by
          have hjk : j < k := by rw [← hkd' ds' (List.mem_of_getElem? hy)]; exact (List.getElem?_eq_some_iff.1 hj).1
          have hy0 : y = 0 := by have := (List.getElem?_eq_some_iff.1 hy).1; simpa using this
          obtain ⟨u, hu1, hu2⟩ := (g6 y ds' hy).2 j d hj
          subst hy0
          refine ⟨u, ?_, hu2⟩
          rw [List.getElem?_take_of_lt (by omega), Array.getElem?_toList]; exact hu1⟩
        have hap : (a.eval x).ownBlock ≠ some vb := fun he => by
          rcases own_inv hx' with ⟨hφ, h3, _⟩ | ⟨b', c', hφ, h3, hle⟩
          · rw [h3] at he; simp [Value.ownBlock] at he
          · rw [h3] at he
            simp only [Value.ownBlock, Option.some.injEq] at he
            subst he
            have := hr.inj id id2 b' c' cap hφ g1 (by rw [hb']; rfl) hne
            rw [hb2'] at this
            cases this
        have := hS w (a.eval x) es.length i xs vb cap arr e2 (arr.toList.take k) q1 q3 hi hby hmax (by simp; omega) g2 rfl hks (hR.one hkd' (fun e he => by rw [List.mem_singleton] at he; rw [he]; exact h1d)) hap
        have e1 : #[x, y, z].map a.eval = #[a.eval x, .int .i64 i, .slice (some ⟨vb, 0, none⟩) 1 cap] := by simp [hy', h2]
        rw [e1]
        refine this.mono ?_
        rintro e' w' ⟨v', rfl, s1, s2, s3⟩
        have hl : (es.take i ++ [ds] ++ es.drop i).length = es.length + 1 := by simp; omega
        exact ⟨v', _, rfl, by rw [hl]; exact s1, s2, s3, ((q2.take hk i hi).append hR).append (q2.drop i)⟩
theorem v_delete {f d id id' k : Nat} {e : TypeId} {es : List (List D)} {i : Nat} {c : Call} {x y z : Operand} (hS : DelSpec P f e k) (hop : o.op = .call c) (hc : c.callee = .value (.func f)) (hxs : c.args = #[x, y, z]) (hen : ∀ args w, (callFunc f args).run P w = .ok (.enter f args) w)
    (hg : GOn ops o m) (hdst : o.dst = some d) (hd : d < G.nt) (hx : evO m x = .own id k es.length) (hb : m (.b id) = .row false e k es) (hy : evO m y = iV (i : Int)) (hz : evO m z = iV ((i : Int) + 1)) (hid : m (.b id') = .nob) (hi : i < es.length)
    (hk : ∀ e ∈ es, e.length = k) (h1 : ∀ e ∈ es, ∀ d ∈ e, d.one = true) :
    Valid P ops G o m ⟨gloc ops o ++ (lo x ++ (lo y ++ (lo z ++ [.b id, .b id']))), [(.b id, .spent), (.b id', .row false e k (es.take i ++ es.drop (i + 1))), (.t d, .own id' k (es.take i ++ es.drop (i + 1)).length)]⟩ := by
  refine valid_turn (x := x) hop hc hxs hen hg hdst hd hx hb hid (fun e he => ?_) (fun l hl => by simp at hl ⊢; rcases hl with h | h | h <;> simp [h]) fun m' hm φ a w hr => ?_
  · simp only [List.mem_append] at he
    rcases he with he | he
    · exact hk e (List.mem_of_mem_take he)
    · exact hk e (List.mem_of_mem_drop he)
  · have hx' := hr.ev' (x := x) (fun l hl => hm l (by simp [hl])) hx
    have hz' : a.eval z = .int .i64 ((i : Int) + 1) := hr.s (x := z) (fun l hl => hm l (by simp [hl])) hz
    have hy' : a.eval y = .int .i64 i := hr.s (x := y) (fun l hl => hm l (by simp [hl])) hy
    have hb' : m' (.b id) = .row false e k es := by rw [hm _ (by simp)]; exact hb
    obtain ⟨xs, q1, q2⟩ := row_owned hr hb' hx' hk
    have := hS w (a.eval x) es.length i xs q1 (q2.one hk h1) hi
    have e1 : #[x, y, z].map a.eval = #[a.eval x, .int .i64 i, .int .i64 ((i : Int) + 1)] := by simp [hy', hz']
    rw [e1]
    refine this.mono ?_
    rintro e' w' ⟨v', rfl, s1, s2, s3⟩
    have hl : (es.take i ++ es.drop (i + 1)).length = es.length - 1 := by simp; omega
    exact ⟨v', _, rfl, by rw [hl]; exact s1, s2, .inl s3, (q2.take hk i (by omega)).append (q2.drop (i + 1))⟩
def insOK (bytes : Nat) (i : Int) (n : Nat) : Bool := decide (0 ≤ i ∧ i ≤ n ∧ (n + 1) * bytes ≤ 140737488355328 ∧ n ≤ 4611686018427387000)
theorem w_ins {α : Type} {f d id id2 k bytes : Nat} {e e2 : TypeId} {fz : Bool} {i : Int} {c : Call} {x y z : Operand} (id' : Nat) (l : List α) (x' : α) (g : α → List D) (hS : InsSpec P f e k bytes) (hop : o.op = .call c) (hc : c.callee = .value (.func f)) (hxs : c.args = #[x, y, z]) (hen : ∀ args w, (callFunc f args).run P w = .ok (.enter f args) w)
    (hg : GOn ops o m) (hdst : o.dst = some d) (hd : d < G.nt) (hf : EncT g k) (hx : evO m x = .own id k l.length) (hb : m (.b id) = .row false e k (l.map g)) (hy : evO m y = iV i) (hz : evO m z = .own id2 k [x'].length) (hb2 : m (.b id2) = .row fz e2 k ([x'].map g)) (hid : m (.b id') = .nob) (hne : (id == id2) = false) (hi : insOK bytes i l.length = true) :
    Valid P ops G o m ⟨gloc ops o ++ (lo x ++ (lo y ++ (lo z ++ [.b id, .b id2, .b id']))), [(.b id, .spent), (.b id', .row false e k ((l.take i.toNat ++ [x'] ++ l.drop i.toNat).map g)), (.t d, .own id' k (l.take i.toNat ++ [x'] ++ l.drop i.toNat).length)]⟩ := by
  obtain ⟨h0, h1, h2, h3⟩ := of_decide_eq_true hi
  have := v_insert (i := i.toNat) (id' := id') (es := l.map g) (ds := g x') hS hop hc hxs hen hg hdst hd (by simpa using hx) hb (by rw [Int.toNat_of_nonneg h0]; exact hy) hz hb2 hid (by simpa using hne) (by rw [List.length_map]; omega) (hf.lens l) (hf.ones l) (hf.len x') (hf.one x') (by simpa using h2) (by simpa using h3)
  simpa [List.map_append, List.map_take, List.map_drop] using this
theorem iV_of {a b : Int} {v : V} (h : a = b) (hv : v = iV a) : v = iV b := h ▸ hv
def delOK (i : Int) (n : Nat) : Bool := decide (0 ≤ i ∧ i < n)
theorem w_del {α : Type} {f d id k : Nat} {e : TypeId} {i : Int} {c : Call} {x y z : Operand} (id' : Nat) (l : List α) (g : α → List D) (hS : DelSpec P f e k) (hop : o.op = .call c) (hc : c.callee = .value (.func f)) (hxs : c.args = #[x, y, z]) (hen : ∀ args w, (callFunc f args).run P w = .ok (.enter f args) w)
    (hg : GOn ops o m) (hdst : o.dst = some d) (hd : d < G.nt) (hf : EncT g k) (hx : evO m x = .own id k l.length) (hb : m (.b id) = .row false e k (l.map g)) (hy : evO m y = iV i) (hz : evO m z = iV (i + 1)) (hid : m (.b id') = .nob) (hi : delOK i l.length = true) :
    Valid P ops G o m ⟨gloc ops o ++ (lo x ++ (lo y ++ (lo z ++ [.b id, .b id']))), [(.b id, .spent), (.b id', .row false e k ((l.take i.toNat ++ l.drop (i.toNat + 1)).map g)), (.t d, .own id' k (l.take i.toNat ++ l.drop (i.toNat + 1)).length)]⟩ := by
  obtain ⟨h0, h1⟩ := of_decide_eq_true hi
  have := v_delete (i := i.toNat) (id' := id') (es := l.map g) hS hop hc hxs hen hg hdst hd (by simpa using hx) hb (by rw [Int.toNat_of_nonneg h0]; exact hy) (by rw [Int.toNat_of_nonneg h0]; exact hz) hid (by rw [List.length_map]; omega) (hf.lens l) (hf.ones l)
  simpa [List.map_append, List.map_take, List.map_drop] using this
end
end Go.Awp
set_option linter.unusedSimpArgs false
set_option linter.unusedVariables false
namespace Go.Awp
open Go.RowKit
section
variable {P : Program} {ops : Array Oper} {G : Call0} {o : Oper} {m : St}
theorem r_max {ts : Array TypeId} {t : TypeId} {k : IntKind} {x y z : Int} {D : TypeDesc} {T : TypeId} (_hT : P.underlying T = some D) (h : maxI x y = z) : ∀ (cs : Array Bool) w, (builtin .max ts t cs #[.int k x, .int k y]).run P w = .ok (.value (.int k z)) w := fun cs w => by
  show (do pure (Next.value (← Builtin.max_ ts t #[.int k x, .int k y]))).run P w = _
  rw [Sem.run_bind, run_max_int2, ← h]
  simp only [maxI, gt_iff_lt]
  rfl
end
end Go.Awp
set_option linter.unusedSimpArgs false
set_option linter.unusedVariables false
namespace Go.Awp
open Go.RowKit
def decR (s : ByteArray) : Int := ((Lib.decodeGo s).1 : Nat)
def decN (s : ByteArray) : Int := ((Lib.decodeGo s).2 : Nat)
theorem cell_kept {w w' : World} (h : Below w.heap.size w w') {a : Addr} {v : Value} (hc : w.cell? a = some v) : w'.cell? a = some v := by
  have hlt : a.block < w.heap.size := by
    unfold World.cell? at hc
    cases hb : w.heap[a.block]? with
    | none => rw [hb] at hc; simp at hc
    | some o => exact (Array.getElem?_eq_some_iff.1 hb).1
  unfold World.cell? at hc ⊢
  rw [h.block _ hlt]; exact hc
def utfAmb (g3 g4 : Nat) : Amb := ⟨fun w => Lib.Utf8Tabs g3 g4 w, fun w w' h hb => ⟨fun c hc => cell_kept hb (h.1 c hc), fun i hi => ⟨cell_kept hb (h.2 i hi).1, cell_kept hb (h.2 i hi).2⟩⟩⟩
theorem spec_utf {P : Program} {g3 g4 f : Nat} (h : ∀ (s : ByteArray) (w : World), Lib.Utf8Tabs g3 g4 w →
    Calls P f #[.string s] w fun e w' => e = .returned (.tuple #[.int .i32 (Lib.decodeGo s).1, .int .i64 (Lib.decodeGo s).2]) ∧ Below w.heap.size w w') (s : ByteArray) :
    Awp.Spec P (utfAmb g3 g4) f [.s (.string s)] (.ds [.s (.int .i32 (decR s)), .s (.int .i64 (decN s))]) := by
  intro w vs ok0 hA hlt hsz hrep
  have hvs : vs = #[.string s] := by
    have h1 : vs.size = 1 := hsz
    have h2 := hrep 0 vs[0] (.s (.string s)) (by simp [h1]) rfl
    cases vs with
    | mk l =>
      match l, h1 with
      | [x], _ => simp at h2; cases h2; rfl
  subst hvs
  refine (h s w hA).mono fun e w' ⟨h1, h2⟩ => ⟨_, h1, h2, .many (by simp) rfl fun i v x hv hx => ?_⟩
  match i with
  | 0 => simp at hv hx; subst hv; subst hx; exact .s _
  | 1 => simp at hv hx; subst hv; subst hx; exact .s _
  | i + 2 => simp at hv
end Go.Awp
set_option linter.unusedSimpArgs false
set_option linter.unusedVariables false
namespace Go.Awp
/-- From some round on it answers one thing, of which P holds. -/
def EvP {α : Type} (f : Nat → Option α) (P : α → Prop) : Prop := ∃ r, Ev f r ∧ P r
section
variable {α β : Type}
theorem EvP.of {f : Nat → Option α} {r : α} {P : α → Prop} (h : Ev f r) (hp : P r) : EvP f P := ⟨r, h, hp⟩
theorem Ev.evP {f : Nat → Option α} {r : α} (h : Ev f r) : EvP f (· = r) := ⟨r, h, rfl⟩
theorem EvP.ev {f : Nat → Option α} {r : α} (h : EvP f (· = r)) : Ev f r := by obtain ⟨x, h1, rfl⟩ := h; exact h1
theorem EvP.mono {f : Nat → Option α} {P Q : α → Prop} (h : EvP f P) (hq : ∀ r, P r → Q r) : EvP f Q := by
  obtain ⟨r, h1, h2⟩ := h; exact ⟨r, h1, hq r h2⟩
theorem EvP.some {r : α} {P : α → Prop} (h : P r) : EvP (fun _ => Option.some r) P := ⟨r, Ev.of fun _ => rfl, h⟩
theorem EvP.bind {f : Nat → Option α} {g : Nat → α → Option β} {P : β → Prop} (h : EvP f fun x => EvP (fun k => g k x) P) : EvP (fun k => (f k).bind (g k)) P := by
  obtain ⟨x, h1, y, h2, h3⟩ := h
  exact ⟨y, h1.bind h2, h3⟩
theorem EvP.cond {c : Bool} {a b : Nat → Option α} {P : α → Prop} (h1 : c = true → EvP a P) (h2 : c = false → EvP b P) : EvP (fun k => bif c then a k else b k) P := by
  cases c with
  | true => exact h1 rfl
  | false => exact h2 rfl
theorem EvP.guard {c : Bool} {a : Nat → Option α} {P : α → Prop} (hc : c = true) (h : EvP a P) : EvP (fun k => bif c then a k else none) P := by subst hc; exact h
theorem EvP.bnd {x : β} {g : Nat → β → Option α} {P : α → Prop} (h : EvP (fun k => g k x) P) : EvP (fun k => Awp.bnd x (g k)) P := h
theorem EvP.succ {f g : Nat → Option α} {P : α → Prop} (h : ∀ k, f (k + 1) = g k) (hg : EvP g P) : EvP f P := by
  obtain ⟨r, h1, h2⟩ := hg
  exact ⟨r, h1.succ h, h2⟩
theorem EvP.congr {f g : Nat → Option α} {P : α → Prop} (h : ∀ k, f k = g k) (hg : EvP g P) : EvP f P := by
  obtain ⟨r, h1, h2⟩ := hg
  exact ⟨r, h1.congr h, h2⟩
/-- A call that is made under a condition alone. -/
theorem EvP.opt {c : Bool} {a : Nat → Option α} [Inhabited α] {P : α → Prop} (h1 : c = true → EvP a P) (h2 : c = false → P default) : EvP (fun k => bif c then a k else Option.some default) P :=
  EvP.cond h1 fun h => EvP.some (h2 h)
theorem EvP.go {R V : Type} {f : Nat → Option (LR R V)} {g : Nat → V → Option R} {P : R → Prop} (h : EvP f fun t => match t with
    | .ret r => P r
    | .out v => EvP (fun k => g k v) P) : EvP (fun k => (f k).bind fun t => t.go (g k)) P := by
  refine EvP.bind (h.mono fun t ht => ?_)
  cases t with
  | ret r => exact EvP.some ht
  | out v => exact ht
theorem Ev.cond {c : Bool} {a b : Nat → Option α} {r : α} (h1 : c = true → Ev a r) (h2 : c = false → Ev b r) : Ev (fun k => bif c then a k else b k) r := by
  cases c with
  | true => exact h1 rfl
  | false => exact h2 rfl
theorem Ev.guard {c : Bool} {a : Nat → Option α} {r : α} (hc : c = true) (h : Ev a r) : Ev (fun k => bif c then a k else none) r := by subst hc; exact h
theorem Ev.opt {c : Bool} {a : Nat → Option α} [Inhabited α] {r : α} (h1 : c = true → Ev a r) (h2 : c = false → default = r) : Ev (fun k => bif c then a k else Option.some default) r :=
  Ev.cond h1 fun h => Ev.of fun _ => by rw [h2 h]
end
theorem i64z {n : Int} (h : -9223372036854775808 ≤ n ∧ n < 9223372036854775808) : IntKind.wrap .i64 n = n := IntWalk.i64_in _ (by omega)
theorem ltI_iff {a b : Int} : ltI a b = true ↔ a < b := by simp [ltI]
theorem leI_iff {a b : Int} : leI a b = true ↔ a ≤ b := by simp [leI]
theorem eqI_iff {a b : Int} : eqI a b = true ↔ a = b := by simp [eqI]
theorem ltI_false {a b : Int} : ltI a b = false ↔ b ≤ a := by simp [ltI]
theorem leI_false {a b : Int} : leI a b = false ↔ b < a := by simp [leI]
theorem eqI_false {a b : Int} : eqI a b = false ↔ a ≠ b := by simp [eqI]
theorem inR_iff {i : Int} {n : Nat} : inR i n = true ↔ 0 ≤ i ∧ i < n := by simp [inR]
theorem inR_mk {i n : Nat} (h : i < n) : inR (i : Int) n = true := by rw [inR_nat]; exact decide_eq_true h
theorem cutOK_mk {l h n : Int} (h1 : 0 ≤ l) (h2 : l ≤ h) (h3 : h ≤ n) : cutOK l h n = true := by simp [cutOK, h1, h2, h3]
theorem appOK_mk {b n m : Nat} (h1 : (n + m) * b ≤ 140737488355328) (h2 : n + m ≤ 9223372036854775807) : appOK b n m = true := by simp [appOK]; omega
theorem rd_nat {α : Type} [Inhabited α] (l : List α) (i : Nat) (h : i < l.length) : rd l (i : Int) = l[i] := by simp [rd, h]
theorem strEq_true {a b : ByteArray} : strEq a b = true ↔ a = b := by rw [strEq_iff]; simp
theorem strEq_false {a b : ByteArray} : strEq a b = false ↔ a ≠ b := by rw [strEq_iff]; simp
theorem strEq_nil (a : ByteArray) : strEq a ⟨#[]⟩ = decide (a.size = 0) := by
  rw [strEq_iff]
  congr 1
  apply propext
  constructor
  · intro h; subst h; rfl
  · intro h; apply ByteArray.ext; exact Array.eq_empty_of_size_eq_zero h
def idxL {α : Type} [Inhabited α] (p : Nat → α → Option Bool) (l : List α) : Nat → Int → Option (LR Int Unit)
  | 0, _ => none
  | k + 1, i => bif ltI i (l.length : Int) then (bif inR i l.length then ((p k (rd l i)).bind fun c => bif c then (some (.ret i)) else (idxL p l k (IntKind.wrap .i64 (i + 1)))) else none) else (some (.out ()))
def findI {α : Type} (q : α → Bool) : List α → Nat → Int
  | [], _ => -1
  | x :: r, i => if q x then i else findI q r (i + 1)
theorem findI_any {α : Type} (q : α → Bool) : ∀ (l : List α) (i : Nat), leI 0 (findI q l i) = l.any q
  | [], _ => rfl
  | x :: r, i => by
    rw [findI, List.any_cons]
    cases h : q x with
    | true => simp [leI_iff]
    | false => simpa using findI_any q r (i + 1)
theorem idxL_ev {α : Type} [Inhabited α] {p : Nat → α → Option Bool} {q : α → Bool} {l : List α} (hl : l.length < 9223372036854775808) : ∀ (n i : Nat), i + n = l.length → (∀ x ∈ l, Ev (fun k => p k x) (q x)) →
    Ev (fun k => (idxL p l k (i : Int)).bind fun t => t.go fun _ => some (-1)) (findI q (l.drop i) i)
  | 0, i, hi, hp => by
    refine Ev.from 1 fun k => ?_
    have : i = l.length := by omega
    rw [idxL, this, ltI_nat]
    simp [findI, LR.go]
  | n + 1, i, hi, hp => by
    have hlt : i < l.length := by omega
    rw [List.drop_eq_getElem_cons hlt, findI]
    refine Ev.succ (g := fun k => ((p k l[i]).bind fun c => bif c then (some (.ret (i : Int))) else (idxL p l k ((i + 1 : Nat) : Int))).bind fun t => t.go fun _ => some (-1)) (fun k => ?_) ?_
    · rw [idxL, ltI_nat, decide_eq_true hlt, inR_mk hlt, rd_nat _ _ hlt, i64z (by omega)]; rfl
    · obtain ⟨m, hm⟩ := hp l[i] (by simp)
      have ih := idxL_ev hl n (i + 1) (by omega) hp
      cases hq : q l[i] with
      | true =>
        refine ⟨m, fun k hk => ?_⟩
        have := hm k hk
        simp only at this
        show Option.bind ((p k l[i]).bind _) _ = _
        rw [this, hq]; rfl
      | false =>
        obtain ⟨m', hm'⟩ := ih
        refine ⟨max m m', fun k hk => ?_⟩
        have := hm k (by omega)
        simp only at this
        show Option.bind ((p k l[i]).bind _) _ = _
        rw [this, hq]
        exact hm' k (by omega)
theorem idxL_eq {α : Type} [Inhabited α] {p : Nat → α → Option Bool} {l : List α} {f : Nat → Int → Option (LR Int Unit)} (h0 : ∀ i, f 0 i = none)
    (h1 : ∀ k i, f (k + 1) i = bif ltI i (l.length : Int) then (bif inR i l.length then ((p k (rd l i)).bind fun c => bif c then (some (.ret i)) else (f k (IntKind.wrap .i64 (i + 1)))) else none) else (some (.out ()))) :
    ∀ k i, f k i = idxL p l k i
  | 0, i => h0 i
  | k + 1, i => by rw [h1, idxL]; simp only [idxL_eq h0 h1 k]
/-- slices.IndexFunc, ContainsFunc as they are printed. -/
theorem idx_ev {α : Type} [Inhabited α] {p : Nat → α → Option Bool} {q : α → Bool} {l : List α} {f : Nat → Int → Option (LR Int Unit)} (hl : l.length < 9223372036854775808) (h0 : ∀ i, f 0 i = none)
    (h1 : ∀ k i, f (k + 1) i = bif ltI i (l.length : Int) then (bif inR i l.length then ((p k (rd l i)).bind fun c => bif c then (some (.ret i)) else (f k (IntKind.wrap .i64 (i + 1)))) else none) else (some (.out ())))
    (hp : ∀ x ∈ l, Ev (fun k => p k x) (q x)) : Ev (fun k => (f k 0).bind fun t => t.go fun _ => some (-1)) (findI q l 0) := by
  have := idxL_ev hl l.length 0 (by omega) hp
  rw [List.drop_zero] at this
  exact this.congr fun k => by rw [idxL_eq h0 h1]; rfl
theorem any_ev {α : Type} {f : Nat → Option Int} {q : α → Bool} {l : List α} (h : Ev f (findI q l 0)) : Ev (fun k => (f k).bind fun t => some (leI 0 t)) (l.any q) := by
  rw [← findI_any q l 0]
  exact h.bind (Ev.of fun _ => rfl)
end Go.Awp
set_option linter.unusedSimpArgs false
set_option linter.unusedVariables false
namespace Go.Awp
abbrev Tot {α : Type} (f : Nat → Option α) : Prop := EvP f fun _ => True
theorem decodeN_pos (n b0 b1 b2 b3 : Nat) : 1 ≤ (Lib.decodeN n b0 b1 b2 b3).2 := by
  unfold Lib.decodeN
  repeat' split
  all_goals (simp only; omega)
theorem decodeN_le (n b0 b1 b2 b3 : Nat) (hn : 1 ≤ n) : (Lib.decodeN n b0 b1 b2 b3).2 ≤ n := by
  unfold Lib.decodeN
  repeat' split
  all_goals (simp only; omega)
theorem dec_pos (s : ByteArray) (i : Nat) : 1 ≤ (Utf8.decode s i).2 := by rw [Lib.decode_at]; exact decodeN_pos _ _ _ _ _
theorem dec_le (s : ByteArray) (i : Nat) (h : i < s.size) : i + (Utf8.decode s i).2 ≤ s.size := by
  rw [Lib.decode_at]
  have := decodeN_le (s.size - i) (s.get! i).toNat (s.get! (i + 1)).toNat (s.get! (i + 2)).toNat (s.get! (i + 3)).toNat (by omega)
  omega
theorem dec_ascii (s : ByteArray) (h : 0 < s.size) (ha : bt s 0 < 128) : (IntKind.wrap .i32 (bt s 0), (1 : Int)) = (decR s, decN s) := by
  have h0 : bt s 0 = ((s[0]'h).toNat : Nat) := bt_nat s 0 h
  have hd := decode_ascii s 0 h (by rw [h0] at ha; omega)
  unfold decR decN Lib.decodeGo
  rw [if_neg (by omega), hd, h0, IntWalk.i32_in _ (by rw [h0] at ha; omega)]
  rfl
theorem size_extract' (s : ByteArray) (a b : Nat) : (s.extract a b).size = min b s.size - a := by simp [ByteArray.size_extract]
end Go.Awp
set_option linter.unusedSimpArgs false
set_option linter.unusedVariables false
namespace Go.Awp
open Go.RowKit Go.ChangeShapes Go.WideShapes
def RepC (W : World) (cs : List Value) (ds : List D) : Prop := cs.length = ds.length ∧ ∀ (i : Nat) (v : Value) (d : D), cs[i]? = some v → ds[i]? = some d → RepD (· < W.heap.size) W v d
/-- What can be read at a type is some typed value's cells. -/
structure Dc (P : Program) (T k : Nat) {α : Type} (f : α → List D) : Prop where
  cells : P.cellsOf T = k
  dec : ∀ {H : Type} (enc : TypeId × Value → H) (W : World) (sp : Nat → Bool) (held : Bool) (fuel : Nat) (cs : List Value) (x : DataW H × List MemPlace), DataW.trod enc P W 0 sp held fuel T cs = some x → ∃ a : α, RepC W cs (f a)
section
variable {P : Program} {W : World}
theorem repC_one {v : Value} {d : D} (h : RepD (· < W.heap.size) W v d) : RepC W [v] [d] := by
  refine ⟨rfl, fun i u e hu he => ?_⟩
  match i with
  | 0 => simp at hu he; subst hu; subst he; exact h
  | i + 1 => simp at hu
theorem repC_nil : RepC W [] [] := ⟨rfl, fun i u e hu _ => by simp at hu⟩
theorem repC_glue {cs : List Value} {o k : Nat} {d r : List D} (h : RepC W ((cs.drop o).take k) d) (hk : d.length = k) (h2 : RepC W (cs.drop (o + k)) r) : RepC W (cs.drop o) (d ++ r) := by
  have e : cs.drop o = (cs.drop o).take k ++ cs.drop (o + k) := by rw [← List.drop_drop, List.take_append_drop]
  have hl : ((cs.drop o).take k).length = k := by rw [h.1, hk]
  rw [e]
  refine ⟨by rw [List.length_append, List.length_append, h.1, h2.1], fun i v c hv hc => ?_⟩
  by_cases hi : i < k
  · rw [List.getElem?_append_left (by omega)] at hv hc
    exact h.2 i v c hv hc
  · rw [List.getElem?_append_right (by omega), hl] at hv
    rw [List.getElem?_append_right (by omega), hk] at hc
    exact h2.2 _ v c hv hc
theorem repC_end {cs : List Value} {n : Nat} (h : cs.length = n) : RepC W (cs.drop n) [] := by
  rw [List.drop_of_length_le (by omega)]; exact repC_nil
theorem repC_all {cs : List Value} {d : List D} (h : RepC W (cs.drop 0) d) : RepC W cs d := h
theorem dcInt {T : Nat} {k : IntKind} (h : P.underlying T = some (.int k)) (hc : P.cellsOf T = 1) : Dc P T 1 (eI k) := ⟨hc, fun enc W sp held fuel cs x hx => by
  obtain ⟨n, rfl, _⟩ := DataW.trod_int h hx
  exact ⟨n, repC_one (.s _)⟩⟩
theorem dcBool {T : Nat} (h : P.underlying T = some .bool) (hc : P.cellsOf T = 1) : Dc P T 1 eB := ⟨hc, fun enc W sp held fuel cs x hx => by
  obtain ⟨n, rfl, _⟩ := DataW.trod_bool h hx
  exact ⟨n, repC_one (.s _)⟩⟩
theorem dcStr {T : Nat} (h : P.underlying T = some .string) (hc : P.cellsOf T = 1) : Dc P T 1 eS := ⟨hc, fun enc W sp held fuel cs x hx => by
  obtain ⟨n, rfl, _⟩ := DataW.trod_string h hx
  exact ⟨n, repC_one (.s _)⟩⟩
theorem cells_at {a : Addr} {n : Nat} {cs : List Value} (h : W.cells? 0 a n = some cs) : cs.length = n ∧ ∀ i, i < n → W.cell? (a.add i) = cs[i]? := by
  have h1 := World.cells?_some h
  exact ⟨h1.2.1, fun i hi => h1.2.2 i hi⟩
theorem add_block (a : Addr) (m : Nat) : (a.add m).block = a.block := by simp only [Addr.add]; split <;> rfl
theorem add_add (a : Addr) (m n : Nat) : (a.add m).add n = a.add (m + n) := by
  simp only [Addr.add]
  by_cases hn : n = 0
  · subst hn; simp
  · by_cases hm : m = 0
    · subst hm; simp
    · rw [if_neg hn, if_neg hm, if_neg (by omega)]
      simp [Nat.add_assoc]
theorem cell_spot {a : Addr} {v : Value} (h : W.cell? a = some v) : a.spot = none ∧ a.block < W.heap.size := by
  unfold World.cell? at h
  cases hb : W.heap[a.block]? with
  | none => rw [hb] at h; simp at h
  | some o =>
    refine ⟨?_, (Array.getElem?_eq_some_iff.1 hb).1⟩
    rw [hb] at h
    cases o <;> simp at h
    exact h.1
theorem dcSlice {T e k : Nat} {α : Type} {f : α → List D} (h : P.underlying T = some (.slice e)) (hc : P.cellsOf T = 1) (hk : 0 < k) (he : Dc P e k f) (hf : EncT f k) : Dc P T 1 (eL k f) := ⟨hc, fun enc W sp held fuel cs x hx => by
  rcases DataW.trod_slice h hx with ⟨rfl, _⟩ | ⟨a, len, cap, elems, rest, n, _, rfl, _, _, hl, hm, hlen, hel, _⟩
  · exact ⟨[], repC_one (.nil k)⟩
  · have each : ∀ i, i < len → ∃ (b : α) (cs' : List Value), cs'.length = k ∧ (∀ j, j < k → W.cell? (a.add (i * k + j)) = cs'[j]?) ∧ RepC W cs' (f b) := fun i hi => by
      have h1 := hel i hi
      rw [he.cells] at h1
      have h2 : ∃ y, elems[i]? = some y := ⟨elems[i]'(by omega), by simp⟩
      obtain ⟨y, hy⟩ := h2
      rw [hy, Option.bind_eq_some_iff] at h1
      obtain ⟨cs', g1, g2⟩ := h1
      obtain ⟨b, hb⟩ := he.dec enc W sp held n cs' y g2
      obtain ⟨g3, g4⟩ := cells_at g1
      exact ⟨b, cs', g3, fun j hj => by rw [← g4 j hj, add_add], hb⟩
    have build : ∀ m, m ≤ len → ∃ l : List α, l.length = m ∧ ∀ i b, l[i]? = some b → ∃ cs' : List Value, cs'.length = k ∧ (∀ j, j < k → W.cell? (a.add (i * k + j)) = cs'[j]?) ∧ RepC W cs' (f b) := fun m => by
      induction m with
      | zero => exact fun _ => ⟨[], rfl, fun i b h => by simp at h⟩
      | succ m ih =>
        intro hm
        obtain ⟨l, hl, hi⟩ := ih (by omega)
        obtain ⟨b, cs', g1, g2, g3⟩ := each m (by omega)
        refine ⟨l ++ [b], by simp [hl], fun i b' hb' => ?_⟩
        by_cases him : i < m
        · rw [List.getElem?_append_left (by omega)] at hb'
          exact hi i b' hb'
        · rw [List.getElem?_append_right (by omega)] at hb'
          have : i - l.length = 0 := by
            rcases Nat.eq_zero_or_pos (i - l.length) with h | h
            · exact h
            · rw [List.getElem?_eq_none (by simp; omega)] at hb'; cases hb'
          rw [this] at hb'
          simp at hb'
          subst hb'
          have : i = m := by omega
          subst this
          exact ⟨cs', g1, g2, g3⟩
    obtain ⟨l, hll, hli⟩ := build len (Nat.le_refl _)
    refine ⟨l, repC_one ?_⟩
    by_cases h0 : len = 0
    · subst h0
      have : l = [] := List.eq_nil_of_length_eq_zero hll
      subst this
      exact .emp a cap k hm
    · obtain ⟨b0, cs0, g1, g2, _⟩ := each 0 (by omega)
      have g3 := g2 0 hk
      rw [List.getElem?_eq_getElem (by omega)] at g3
      obtain ⟨g4, g5⟩ := cell_spot g3
      have ha : a = ⟨a.block, a.off, none⟩ := by
        cases a with | mk b o s => simp [Addr.add] at g4; simp [g4]
      rw [add_block] at g5
      rw [ha, ← hll]
      have hlm : (l.map f).length = l.length := List.length_map _
      rw [← hlm]
      refine .sl a.block a.off cap k (l.map f) (fun i j => (W.cell? ⟨a.block, a.off + i * k + j, none⟩).getD undef) (by rw [hlm]; omega) hm g5 (fun i e hi => ?_) (fun i e j c hi hj => ?_) (fun i e j c hi hj => ?_)
      · exact hf.lens l e (List.mem_of_getElem? hi)
      all_goals
        rw [List.getElem?_map, Option.map_eq_some_iff] at hi
        obtain ⟨b, hb, rfl⟩ := hi
        obtain ⟨cs', q1, q2, q3⟩ := hli i b hb
        have hjk : j < k := by rw [← hf.len b]; exact (List.getElem?_eq_some_iff.1 hj).1
        have q4 := q2 j hjk
        rw [List.getElem?_eq_getElem (by omega)] at q4
        have q5 : W.cell? ⟨a.block, a.off + i * k + j, none⟩ = some (cs'[j]'(by omega)) := by
          rw [ha] at q4
          rw [Addr.add_lit] at q4
          rw [Nat.add_assoc]; exact q4
      · rw [q5]; rfl
      · rw [q5]
        exact q3.2 j _ c (List.getElem?_eq_getElem (by omega)) hj⟩
theorem field_some {H : Type} {enc : TypeId × Value → H} {sp : Nat → Bool} {held : Bool} {n : Nat} {fs : Array Field} {cs : List Value} {xs : List (DataW H × List MemPlace)} (hl : xs.length = fs.size)
    (h : ∀ (i : Nat) (f : Field), fs[i]? = some f → DataW.trod enc P W 0 sp held n f.type ((cs.drop f.offset).take (P.cellsOf f.type)) = xs[i]?) {i T o k : Nat} {α : Type} {g : α → List D} (hi : (fs[i]?).map (fun f => (f.type, f.offset)) = some (T, o)) (hd : Dc P T k g) :
    ∃ a : α, RepC W ((cs.drop o).take k) (g a) := by
  cases hq : fs[i]? with
  | none => rw [hq] at hi; cases hi
  | some f =>
    rw [hq] at hi
    simp only [Option.map_some, Option.some.injEq, Prod.mk.injEq] at hi
    obtain ⟨rfl, rfl⟩ := hi
    have hlt : i < xs.length := by rw [hl]; exact (Array.getElem?_eq_some_iff.1 hq).1
    have h1 := h i f hq
    rw [List.getElem?_eq_getElem hlt, hd.cells] at h1
    exact hd.dec enc W sp held n _ _ h1
/-- An argument that is a record. -/
theorem dc_agg {T k : Nat} {α : Type} {f : α → List D} {fs : Array Field} (ht : P.underlying T = some (.struct fs)) (hd : Dc P T k f) {H : Type} {enc : TypeId × Value → H} {sp : Nat → Bool} {held : Bool} {r : Reach} {b0 : Nat} {v : Value} {d : DataW H} {ps : List MemPlace}
    (hval : Value.okWide P W r b0 T v) (h : DataW.Trod enc P W 0 sp held T v d ps) : ∃ a : α, RepD (· < W.heap.size) W v (.agg (f a)) := by
  unfold Value.okWide at hval
  rw [ht] at hval
  obtain ⟨cs, rfl, _, _⟩ := hval
  obtain ⟨fuel, h⟩ := h
  obtain ⟨a, ha⟩ := hd.dec enc W sp held fuel _ _ h
  refine ⟨a, .agg cs _ ?_ fun i v c hv hc => ha.2 i v c ?_ hc⟩
  · simpa [Value.cells] using ha.1
  · simpa [Value.cells] using hv
/-- An argument of one cell. -/
theorem dc_one {T : Nat} {α : Type} {f : α → List D} {g : α → D} (hfg : ∀ a, f a = [g a]) (hd : Dc P T 1 f) {H : Type} {enc : TypeId × Value → H} {sp : Nat → Bool} {held : Bool} {v : Value} {d : DataW H} {ps : List MemPlace}
    (h1 : v.cells = #[v]) (h : DataW.Trod enc P W 0 sp held T v d ps) : ∃ a : α, RepD (· < W.heap.size) W v (g a) := by
  obtain ⟨fuel, h⟩ := h
  rw [h1] at h
  obtain ⟨a, ha⟩ := hd.dec enc W sp held fuel _ _ h
  refine ⟨a, ha.2 0 v (g a) rfl ?_⟩
  rw [hfg]; rfl
/-- Arguments that are numbers, texts, slices. -/
theorem dc_int {T : Nat} {k : IntKind} (ht : P.underlying T = some (.int k)) (hd : Dc P T 1 (eI k)) {H : Type} {enc : TypeId × Value → H} {sp : Nat → Bool} {held : Bool} {r : Reach} {b0 : Nat} {v : Value} {d : DataW H} {ps : List MemPlace}
    (hval : Value.okWide P W r b0 T v) (h : DataW.Trod enc P W 0 sp held T v d ps) : ∃ a : Int, RepD (· < W.heap.size) W v (.s (.int k a)) := by
  refine dc_one (g := fun a => .s (.int k a)) (fun _ => rfl) hd ?_ h
  unfold Value.okWide at hval
  rw [ht] at hval
  cases v <;> first | rfl | (simp [Cell.okWide, Cell.ok, ht] at hval)
theorem dc_str {T : Nat} (ht : P.underlying T = some .string) (hd : Dc P T 1 eS) {H : Type} {enc : TypeId × Value → H} {sp : Nat → Bool} {held : Bool} {r : Reach} {b0 : Nat} {v : Value} {d : DataW H} {ps : List MemPlace}
    (hval : Value.okWide P W r b0 T v) (h : DataW.Trod enc P W 0 sp held T v d ps) : ∃ a : ByteArray, RepD (· < W.heap.size) W v (.s (.string a)) := by
  refine dc_one (g := fun a => .s (.string a)) (fun _ => rfl) hd ?_ h
  unfold Value.okWide at hval
  rw [ht] at hval
  cases v <;> first | rfl | (simp [Cell.okWide, Cell.ok, ht] at hval)
end
end Go.Awp
set_option linter.unusedSimpArgs false
set_option linter.unusedVariables false
namespace Go.Awp
open Go.RowKit Go.ChangeShapes Go.WideShapes
theorem all_stays {H : Type} {enc : TypeId × Value → H} {P : Program} (hl : laidOutB P = true) {W W' : World} (hb : Below W.heap.size W W') : ∀ {ts : List TypeId} {vs : List Value} {ds : List (DataW H)} {ps : List MemPlace},
    (∀ t ∈ ts, P.readableRec t = true ∧ t < P.types.size) → DataW.TrodAll enc P W 0 (fun _ => true) true ts vs ds ps → (∀ x ∈ ps, x.block < W.heap.size) → ∀ sp : Nat → Bool, (∀ x ∈ ps, sp x.block = true) → DataW.TrodAll enc P W' 0 sp true ts vs ds ps
  | [], [], [], ps, _, h, _, _, _ => h
  | t :: ts, v :: vs, d :: ds, ps, hts, h, hlt, sp, hsp => by
    obtain ⟨p, q, h1, h2, rfl⟩ := h
    refine ⟨p, q, WideElems.Trod_stays hl (hts t (by simp)).1 (hts t (by simp)).2 h1 (fun x hx => hb.same (hlt x (by simp [hx]))) (fun x hx => hsp x (by simp [hx])), ?_, rfl⟩
    exact all_stays hl hb (fun u hu => hts u (by simp [hu])) h2 (fun x hx => hlt x (by simp [hx])) sp (fun x hx => hsp x (by simp [hx]))
  | [], _ :: _, _, _, _, h, _, _, _ => h.elim
  | [], [], _ :: _, _, _, h, _, _, _ => h.elim
  | _ :: _, [], _, _, _, h, _, _, _ => h.elim
  | _ :: _, _ :: _, [], _, _, h, _, _, _ => h.elim
theorem law_post {H : Type} {enc : TypeId × Value → H} {P : Program} {f : Func} {s : ChangeSpec} {W W' : World} {args : Array Value} {ds gs : List (DataW H)} {before p : List MemPlace} {tb : TypeId} (hl : laidOutB P = true) (hts : (f.params.toList.all fun t => P.readableRec t && decide (t < P.types.size)) = true)
    (hW : DataW.Whole enc P f.params.toList s.vars false W args.toList ds gs before) (hA : DataW.TrodAll enc P W 0 (fun _ => true) true f.params.toList args.toList ds p) (hp : before = p) (hv : s.vars = [])
    (h1 : (s.fn H (ds ++ gs)).results = [.lit (.bool true)]) (h2 : (s.fn H (ds ++ gs)).args = ds) (h3 : (s.fn H (ds ++ gs)).vars = []) (hr : f.resultTypes = #[tb]) (hu : P.underlying tb = some .bool)
    (hok : ∀ (j : Nat) (t : TypeId) (r : Value), f.resultTypes[j]? = some t → ((Value.bool true).resultList f.resultTypes.size)[j]? = some r → Value.okWide P W' .any 0 t r) (hb : Below W.heap.size W W') :
    s.post enc P f false true false false W args (.bool true) W' := by
  subst hp
  have hts' : ∀ t ∈ f.params.toList, P.readableRec t = true ∧ t < P.types.size := fun t ht => by
    have := List.all_eq_true.1 hts t ht
    simpa using this
  refine post_of_below (pa := before) (pv := []) hW (fun _ _ _ => ?_) (fun sp hsp => ?_) (fun sp _ => ?_) (by simp) hb hok
  · rw [h1, hr]
    exact trodAll_cons_mk (shut_bool hu _) trodAll_mk0
  · rw [h2]
    exact all_stays hl hb hts' hA hW.lt sp hsp
  · rw [h3, hv]; exact rfl
end Go.Awp
set_option linter.unusedSimpArgs false
set_option linter.unusedVariables false
namespace Go.Awp
theorem get_bt (s : ByteArray) (i : Nat) : ((s.get! i).toNat : Int) = bt s (i : Int) := by
  unfold bt
  rw [Int.toNat_natCast]
  cases s with
  | mk d =>
    show ((d[i]!).toNat : Int) = _
    by_cases h : i < d.size
    · have h' : i < (ByteArray.mk d).size := h
      rw [getElem!_pos d i h, (getElem?_pos (ByteArray.mk d) i h' : (ByteArray.mk d)[i]? = _)]; rfl
    · have h' : ¬ i < (ByteArray.mk d).size := h
      rw [getElem!_neg d i h, (getElem?_neg (ByteArray.mk d) i h' : (ByteArray.mk d)[i]? = _)]; rfl
theorem bt_ext (s : ByteArray) (i j : Nat) : bt (s.extract i s.size) (j : Int) = bt s ((i + j : Nat) : Int) := by
  unfold bt
  rw [Int.toNat_natCast, Int.toNat_natCast]
  by_cases h : i + j < s.size
  · have h1 : j < (s.extract i s.size).size := by rw [size_extract']; omega
    rw [(getElem?_pos _ j h1 : (s.extract i s.size)[j]? = _), (getElem?_pos _ (i + j) h : s[i + j]? = _), ByteArray.getElem_extract]
  · have h1 : ¬ j < (s.extract i s.size).size := by rw [size_extract']; omega
    rw [(getElem?_neg _ j h1 : (s.extract i s.size)[j]? = _), (getElem?_neg _ (i + j) h : s[i + j]? = _)]
theorem get_ext (s : ByteArray) (i j : Nat) : (s.extract i s.size).get! j = s.get! (i + j) := by
  have h1 := get_bt (s.extract i s.size) j
  rw [bt_ext, ← get_bt] at h1
  exact UInt8.toNat_inj.1 (by omega)
theorem dec_ext (s : ByteArray) (i : Nat) : Utf8.decode (s.extract i s.size) 0 = Utf8.decode s i := by
  rw [Lib.decode_at, Lib.decode_at, size_extract', Nat.min_self, get_ext, get_ext, get_ext, get_ext]
  simp
theorem decR_ext (s : ByteArray) (i : Nat) (h : i < s.size) : decR (s.extract i s.size) = ((Utf8.decode s i).1 : Nat) ∧ decN (s.extract i s.size) = ((Utf8.decode s i).2 : Nat) := by
  unfold decR decN Lib.decodeGo
  rw [if_neg (by rw [size_extract']; omega), dec_ext]
  exact ⟨rfl, rfl⟩
theorem bt_range (s : ByteArray) (i : Int) : 0 ≤ bt s i ∧ bt s i < 256 := by
  unfold bt
  have := UInt8.toNat_lt (((s[i.toNat]?).getD 0))
  omega
/-- What a decoder that goes byte by byte has behind m more bytes. -/
def contL (t : ByteArray) : Nat → Nat → Int → LR (Int × Int) Int
  | 0, _, r => .out r
  | m + 1, i, r => bif ltI (bt t (i : Nat)) 128 || ltI 191 (bt t (i : Nat)) then .ret (-1, 1) else contL t m (i + 1) (64 * r + bt t (i : Nat) - 128)
/-- A rune and its width; -1 and 1: there is none. -/
def letter (t : ByteArray) : Int × Int := if (Utf8.decode t 0).2 = 1 ∧ 128 ≤ bt t 0 then (-1, 1) else (((Utf8.decode t 0).1 : Nat), ((Utf8.decode t 0).2 : Nat))
/-- The plain decoder, in its own words: behind the first byte; the whole. -/
def tailL (t : ByteArray) (r : Int) (n : Nat) (lo : Int) : Int × Int :=
  if n = 0 ∨ t.size < n then (-1, 1) else match contL t (n - 1) 1 r with
    | .ret x => x
    | .out r => if r < lo ∨ 1114111 < r ∨ (55296 ≤ r ∧ r < 57344) then (-1, 1) else (r, n)
def letter0 (t : ByteArray) : Int × Int :=
  if bt t 0 < 128 then (bt t 0, 1) else if 194 ≤ bt t 0 ∧ bt t 0 < 224 then tailL t (bt t 0 - 192) 2 128 else if 224 ≤ bt t 0 ∧ bt t 0 < 240 then tailL t (bt t 0 - 224) 3 2048
  else if 240 ≤ bt t 0 ∧ bt t 0 < 245 then tailL t (bt t 0 - 240) 4 65536 else tailL t (bt t 0) 0 0
theorem dN1 (n b0 b1 b2 b3 : Nat) (h : b0 < 128) : Lib.decodeN n b0 b1 b2 b3 = (b0, 1) := by unfold Lib.decodeN; rw [if_pos h]
theorem dN2 (n b0 b1 b2 b3 : Nat) (h : 194 ≤ b0 ∧ b0 < 224) : Lib.decodeN n b0 b1 b2 b3 = if 1 < n ∧ b1 / 64 = 2 then (b0 % 32 * 64 + b1 % 64, 2) else (65533, 1) := by
  unfold Lib.decodeN
  have e1 : (b0 / 32 = 6) = True := eq_true (by omega)
  have e2 : (b0 / 16 = 14) = False := eq_false (by omega)
  have e3 : (b0 / 8 = 30) = False := eq_false (by omega)
  have e4 : (b0 % 32 * 64 + b1 % 64 ≥ 128) = True := eq_true (by omega)
  rw [if_neg (by omega)]
  simp only [e1, e2, e3, e4, true_and, false_and, if_false, if_true]
theorem dN3 (n b0 b1 b2 b3 : Nat) (h : 224 ≤ b0 ∧ b0 < 240) : Lib.decodeN n b0 b1 b2 b3 = if (1 < n ∧ b1 / 64 = 2) ∧ (2 < n ∧ b2 / 64 = 2) then
    (if b0 % 16 * 4096 + b1 % 64 * 64 + b2 % 64 ≥ 2048 ∧ (b0 % 16 * 4096 + b1 % 64 * 64 + b2 % 64 < 55296 ∨ (57344 ≤ b0 % 16 * 4096 + b1 % 64 * 64 + b2 % 64 ∧ b0 % 16 * 4096 + b1 % 64 * 64 + b2 % 64 ≤ 1114111)) then (b0 % 16 * 4096 + b1 % 64 * 64 + b2 % 64, 3) else (65533, 1)) else (65533, 1) := by
  unfold Lib.decodeN
  have e1 : (b0 / 32 = 6) = False := eq_false (by omega)
  have e2 : (b0 / 16 = 14) = True := eq_true (by omega)
  have e3 : (b0 / 8 = 30) = False := eq_false (by omega)
  rw [if_neg (by omega)]
  simp only [e1, e2, e3, true_and, false_and, if_false, if_true]
theorem dN4 (n b0 b1 b2 b3 : Nat) (h : 240 ≤ b0 ∧ b0 < 245) : Lib.decodeN n b0 b1 b2 b3 = if (1 < n ∧ b1 / 64 = 2) ∧ (2 < n ∧ b2 / 64 = 2) ∧ (3 < n ∧ b3 / 64 = 2) then
    (if b0 % 8 * 262144 + b1 % 64 * 4096 + b2 % 64 * 64 + b3 % 64 ≥ 65536 ∧ (b0 % 8 * 262144 + b1 % 64 * 4096 + b2 % 64 * 64 + b3 % 64 < 55296 ∨ (57344 ≤ b0 % 8 * 262144 + b1 % 64 * 4096 + b2 % 64 * 64 + b3 % 64 ∧ b0 % 8 * 262144 + b1 % 64 * 4096 + b2 % 64 * 64 + b3 % 64 ≤ 1114111)) then (b0 % 8 * 262144 + b1 % 64 * 4096 + b2 % 64 * 64 + b3 % 64, 4) else (65533, 1)) else (65533, 1) := by
  unfold Lib.decodeN
  have e1 : (b0 / 32 = 6) = False := eq_false (by omega)
  have e2 : (b0 / 16 = 14) = False := eq_false (by omega)
  have e3 : (b0 / 8 = 30) = True := eq_true (by omega)
  rw [if_neg (by omega)]
  simp only [e1, e2, e3, true_and, false_and, if_false, if_true]
theorem dNx (n b0 b1 b2 b3 : Nat) (h : 128 ≤ b0) (h1 : ¬ (194 ≤ b0 ∧ b0 < 224)) (h2 : ¬ (224 ≤ b0 ∧ b0 < 240)) (h3 : ¬ (240 ≤ b0 ∧ b0 < 245)) (h4 : b0 < 256) : Lib.decodeN n b0 b1 b2 b3 = (65533, 1) := by
  unfold Lib.decodeN
  rw [if_neg (by omega)]
  by_cases ha : b0 / 32 = 6
  · have e2 : (b0 / 16 = 14) = False := eq_false (by omega)
    have e3 : (b0 / 8 = 30) = False := eq_false (by omega)
    have e4 : (b0 % 32 * 64 + b1 % 64 ≥ 128) = False := eq_false (by omega)
    simp only [e2, e3, e4, false_and, if_false]
    split <;> rfl
  · have e2 : (b0 / 16 = 14) = False := eq_false (by omega)
    simp only [ha, e2, false_and, if_false]
    by_cases hb : b0 / 8 = 30
    · have e5 : (b0 % 8 * 262144 + b1 % 64 * 4096 + b2 % 64 * 64 + b3 % 64 ≥ 65536 ∧ (b0 % 8 * 262144 + b1 % 64 * 4096 + b2 % 64 * 64 + b3 % 64 < 55296 ∨ (57344 ≤ b0 % 8 * 262144 + b1 % 64 * 4096 + b2 % 64 * 64 + b3 % 64 ∧ b0 % 8 * 262144 + b1 % 64 * 4096 + b2 % 64 * 64 + b3 % 64 ≤ 1114111))) = False := eq_false (by omega)
      simp only [e5, if_false]
      split <;> rfl
    · simp only [hb, false_and, if_false]
theorem contB (b : Nat) (h : b < 256) : (ltI (b : Int) 128 || ltI 191 (b : Int)) = !decide (b / 64 = 2) := by
  rw [Bool.eq_iff_iff]
  simp only [Bool.or_eq_true, ltI_iff, Bool.not_eq_true', decide_eq_false_iff_not]
  omega
theorem letter_eq (t : ByteArray) (h : 0 < t.size) : letter0 t = letter t := by
  unfold letter
  rw [Lib.decode_at, Nat.sub_zero]
  have g0 := get_bt t 0
  have g1 := get_bt t 1
  have g2 := get_bt t 2
  have g3 := get_bt t 3
  simp only [Nat.zero_add] at g0 g1 g2 g3 ⊢
  have r0 := UInt8.toNat_lt (t.get! 0)
  have r1 := UInt8.toNat_lt (t.get! 1)
  have r2 := UInt8.toNat_lt (t.get! 2)
  have r3 := UInt8.toNat_lt (t.get! 3)
  generalize (t.get! 0).toNat = b0 at *
  generalize (t.get! 1).toNat = b1 at *
  generalize (t.get! 2).toNat = b2 at *
  generalize (t.get! 3).toNat = b3 at *
  have e0 : bt t 0 = b0 := g0.symm
  have e1 : bt t ((1 : Nat) : Int) = b1 := g1.symm
  have e2 : bt t ((1 + 1 : Nat) : Int) = b2 := g2.symm
  have e3 : bt t ((1 + 1 + 1 : Nat) : Int) = b3 := g3.symm
  clear g0 g1 g2 g3
  unfold letter0
  rw [e0]
  have bad : ∀ {x : Int × Int}, Lib.decodeN t.size b0 b1 b2 b3 = (65533, 1) → 128 ≤ b0 → x = (-1, 1) → x = if (Lib.decodeN t.size b0 b1 b2 b3).2 = 1 ∧ (128 : Int) ≤ b0 then ((-1 : Int), (1 : Int)) else ((((Lib.decodeN t.size b0 b1 b2 b3).1 : Nat) : Int), (((Lib.decodeN t.size b0 b1 b2 b3).2 : Nat) : Int)) := fun hd h hx => by
    rw [hd, if_pos ⟨rfl, by omega⟩, hx]
  have good : ∀ {x : Int × Int} (r n : Nat), Lib.decodeN t.size b0 b1 b2 b3 = (r, n) → 1 < n ∨ b0 < 128 → x = ((r : Int), (n : Int)) → x = if (Lib.decodeN t.size b0 b1 b2 b3).2 = 1 ∧ (128 : Int) ≤ b0 then ((-1 : Int), (1 : Int)) else ((((Lib.decodeN t.size b0 b1 b2 b3).1 : Nat) : Int), (((Lib.decodeN t.size b0 b1 b2 b3).2 : Nat) : Int)) := fun r n hd h hx => by
    rw [hd, if_neg (by simp only; omega), hx]
  by_cases h0 : b0 < 128
  · exact good b0 1 (dN1 _ _ _ _ _ h0) (.inr h0) (by rw [if_pos (by omega)]; rfl)
  rw [if_neg (by omega : ¬ (b0 : Int) < 128)]
  by_cases h1 : 194 ≤ b0 ∧ b0 < 224
  · rw [if_pos (by omega : (194 : Int) ≤ b0 ∧ (b0 : Int) < 224)]
    have hd := dN2 t.size b0 b1 b2 b3 h1
    unfold tailL
    by_cases hs : t.size < 2
    · rw [if_neg (by omega)] at hd
      exact bad hd (by omega) (by rw [if_pos (.inr hs)])
    simp only [contL, e1, contB b1 r1, Nat.add_one_sub_one]
    by_cases hc : b1 / 64 = 2
    · rw [if_pos ⟨by omega, hc⟩] at hd
      refine good _ _ hd (.inl (by omega)) ?_
      rw [if_neg (by omega), decide_eq_true hc]
      simp only [Bool.not_true, cond_false]
      rw [if_neg (by omega)]
      refine Prod.ext ?_ rfl
      show (_ : Int) = ((_ : Nat) : Int)
      omega
    · rw [if_neg (fun x => hc x.2)] at hd
      exact bad hd (by omega) (by rw [if_neg (by omega), decide_eq_false hc]; rfl)
  rw [if_neg (by omega : ¬ ((194 : Int) ≤ b0 ∧ (b0 : Int) < 224))]
  by_cases h2 : 224 ≤ b0 ∧ b0 < 240
  · rw [if_pos (by omega : (224 : Int) ≤ b0 ∧ (b0 : Int) < 240)]
    have hd := dN3 t.size b0 b1 b2 b3 h2
    unfold tailL
    by_cases hs : t.size < 3
    · rw [if_neg (by omega)] at hd
      exact bad hd (by omega) (by rw [if_pos (.inr hs)])
    simp only [contL, e1, e2, contB b1 r1, contB b2 r2, Nat.add_one_sub_one]
    by_cases hc : b1 / 64 = 2
    · by_cases hc2 : b2 / 64 = 2
      · rw [if_pos ⟨⟨by omega, hc⟩, by omega, hc2⟩] at hd
        by_cases hv : b0 % 16 * 4096 + b1 % 64 * 64 + b2 % 64 ≥ 2048 ∧ (b0 % 16 * 4096 + b1 % 64 * 64 + b2 % 64 < 55296 ∨ (57344 ≤ b0 % 16 * 4096 + b1 % 64 * 64 + b2 % 64 ∧ b0 % 16 * 4096 + b1 % 64 * 64 + b2 % 64 ≤ 1114111))
        · rw [if_pos hv] at hd
          refine good _ _ hd (.inl (by omega)) ?_
          rw [if_neg (by omega), decide_eq_true hc, decide_eq_true hc2]
          simp only [Bool.not_true, cond_false]
          rw [if_neg (by omega)]
          refine Prod.ext ?_ rfl
          show (_ : Int) = ((_ : Nat) : Int)
          omega
        · rw [if_neg hv] at hd
          refine bad hd (by omega) ?_
          rw [if_neg (by omega), decide_eq_true hc, decide_eq_true hc2]
          simp only [Bool.not_true, cond_false]
          rw [if_pos (by omega)]
      · rw [if_neg (fun x => hc2 x.2.2)] at hd
        exact bad hd (by omega) (by rw [if_neg (by omega), decide_eq_true hc, decide_eq_false hc2]; rfl)
    · rw [if_neg (fun x => hc x.1.2)] at hd
      exact bad hd (by omega) (by rw [if_neg (by omega), decide_eq_false hc]; rfl)
  rw [if_neg (by omega : ¬ ((224 : Int) ≤ b0 ∧ (b0 : Int) < 240))]
  by_cases h3 : 240 ≤ b0 ∧ b0 < 245
  · rw [if_pos (by omega : (240 : Int) ≤ b0 ∧ (b0 : Int) < 245)]
    have hd := dN4 t.size b0 b1 b2 b3 h3
    unfold tailL
    by_cases hs : t.size < 4
    · rw [if_neg (by omega)] at hd
      exact bad hd (by omega) (by rw [if_pos (.inr hs)])
    simp only [contL, e1, e2, e3, contB b1 r1, contB b2 r2, contB b3 r3, Nat.add_one_sub_one]
    by_cases hc : b1 / 64 = 2
    · by_cases hc2 : b2 / 64 = 2
      · by_cases hc3 : b3 / 64 = 2
        · rw [if_pos ⟨⟨by omega, hc⟩, ⟨by omega, hc2⟩, by omega, hc3⟩] at hd
          by_cases hv : b0 % 8 * 262144 + b1 % 64 * 4096 + b2 % 64 * 64 + b3 % 64 ≥ 65536 ∧ (b0 % 8 * 262144 + b1 % 64 * 4096 + b2 % 64 * 64 + b3 % 64 < 55296 ∨ (57344 ≤ b0 % 8 * 262144 + b1 % 64 * 4096 + b2 % 64 * 64 + b3 % 64 ∧ b0 % 8 * 262144 + b1 % 64 * 4096 + b2 % 64 * 64 + b3 % 64 ≤ 1114111))
          · rw [if_pos hv] at hd
            refine good _ _ hd (.inl (by omega)) ?_
            rw [if_neg (by omega), decide_eq_true hc, decide_eq_true hc2, decide_eq_true hc3]
            simp only [Bool.not_true, cond_false]
            rw [if_neg (by omega)]
            refine Prod.ext ?_ rfl
            show (_ : Int) = ((_ : Nat) : Int)
            omega
          · rw [if_neg hv] at hd
            refine bad hd (by omega) ?_
            rw [if_neg (by omega), decide_eq_true hc, decide_eq_true hc2, decide_eq_true hc3]
            simp only [Bool.not_true, cond_false]
            rw [if_pos (by omega)]
        · rw [if_neg (fun x => hc3 x.2.2.2)] at hd
          exact bad hd (by omega) (by rw [if_neg (by omega), decide_eq_true hc, decide_eq_true hc2, decide_eq_false hc3]; rfl)
      · rw [if_neg (fun x => hc2 x.2.1.2)] at hd
        exact bad hd (by omega) (by rw [if_neg (by omega), decide_eq_true hc, decide_eq_false hc2]; rfl)
    · rw [if_neg (fun x => hc x.1.2)] at hd
      exact bad hd (by omega) (by rw [if_neg (by omega), decide_eq_false hc]; rfl)
  · rw [if_neg (by omega : ¬ ((240 : Int) ≤ b0 ∧ (b0 : Int) < 245))]
    exact bad (dNx _ _ _ _ _ (by omega) h1 h2 h3 r0) (by omega) (by unfold tailL; rw [if_pos (.inl rfl)])
theorem decodeN_bad (n b0 b1 b2 b3 : Nat) (h : (Lib.decodeN n b0 b1 b2 b3).2 = 1) (h0 : 128 ≤ b0) : (Lib.decodeN n b0 b1 b2 b3).1 = 65533 := by
  revert h
  unfold Lib.decodeN
  rw [if_neg (by omega)]
  repeat' split
  all_goals (intro h; first | rfl | (exfalso; simp only at h; omega))
theorem decodeN_err (n b0 b1 b2 b3 : Nat) (h : (Lib.decodeN n b0 b1 b2 b3).1 = 65533) (h4 : b0 < 256) : (Lib.decodeN n b0 b1 b2 b3).2 = 3 ∨ ((Lib.decodeN n b0 b1 b2 b3).2 = 1 ∧ 128 ≤ b0) := by
  by_cases h0 : b0 < 128
  · rw [dN1 _ _ _ _ _ h0] at h; simp only at h; omega
  by_cases h1 : 194 ≤ b0 ∧ b0 < 224
  · rw [dN2 _ _ _ _ _ h1] at h ⊢
    split at h
    · simp only at h; omega
    · rename_i hc; rw [if_neg hc]; exact .inr ⟨rfl, by omega⟩
  by_cases h2 : 224 ≤ b0 ∧ b0 < 240
  · rw [dN3 _ _ _ _ _ h2] at h ⊢
    split
    · split
      · exact .inl rfl
      · exact .inr ⟨rfl, by omega⟩
    · exact .inr ⟨rfl, by omega⟩
  by_cases h3 : 240 ≤ b0 ∧ b0 < 245
  · rw [dN4 _ _ _ _ _ h3] at h ⊢
    split
    · rename_i hc
      rw [if_pos hc] at h
      split
      · rename_i hv; rw [if_pos hv] at h; simp only at h; omega
      · exact .inr ⟨rfl, by omega⟩
    · exact .inr ⟨rfl, by omega⟩
  · rw [dNx _ _ _ _ _ (by omega) h1 h2 h3 h4]; exact .inr ⟨rfl, by omega⟩
def plainD (d : Nat × Nat) : Bool := decide (33 ≤ d.1 ∧ (d.1 < 127 ∨ 159 < d.1) ∧ (d.1 ≠ 65533 ∨ d.2 = 3))
def goodFrom (s : ByteArray) : Nat → Nat → Bool
  | 0, _ => true
  | n + 1, i => if i < s.size then (if plainD (Utf8.decode s i) = true then goodFrom s n (i + (Utf8.decode s i).2) else false) else true
/-- Is a text a key? -/
def keyR (s : ByteArray) : Bool := goodFrom s s.size 0 && decide (1 ≤ s.size ∧ s.size ≤ 16)
theorem plain_dec (s : ByteArray) (i : Nat) (h : i < s.size) :
    (((leI 33 (((Utf8.decode s i).1 : Nat) : Int)) && ((ltI (((Utf8.decode s i).1 : Nat) : Int) 127) || (ltI 159 (((Utf8.decode s i).1 : Nat) : Int)))) && ((!eqI (((Utf8.decode s i).1 : Nat) : Int) 65533) || (eqI (((Utf8.decode s i).2 : Nat) : Int) 3))) = plainD (Utf8.decode s i) := by
  rw [Bool.eq_iff_iff]
  simp only [Bool.and_eq_true, Bool.or_eq_true, Bool.not_eq_true', leI_iff, ltI_iff, eqI_iff, eqI_false, plainD, decide_eq_true_eq]
  omega
theorem plain_letter (s : ByteArray) (i : Nat) (h : i < s.size) : ∃ r n : Int, letter (s.extract i s.size) = (r, n) ∧ (((ltI 32 r) && (!eqI r 127)) && ((ltI r 128) || (ltI 159 r))) = plainD (Utf8.decode s i) ∧ (plainD (Utf8.decode s i) = true → n = ((Utf8.decode s i).2 : Nat)) := by
  unfold letter
  rw [dec_ext, show (0 : Int) = ((0 : Nat) : Int) from rfl, bt_ext, Nat.add_zero]
  have g0 := get_bt s i
  have r0 := UInt8.toNat_lt (s.get! i)
  rw [← g0]
  by_cases hb : (Utf8.decode s i).2 = 1 ∧ 128 ≤ ((s.get! i).toNat : Int)
  · rw [if_pos hb]
    have h1 : (Utf8.decode s i).1 = 65533 := by
      rw [Lib.decode_at] at hb ⊢
      exact decodeN_bad _ _ _ _ _ hb.1 (by omega)
    have h2 : plainD (Utf8.decode s i) = false := by simp [plainD, h1, hb.1]
    exact ⟨-1, 1, rfl, by rw [h2]; rfl, fun h => by rw [h2] at h; cases h⟩
  · rw [if_neg hb]
    refine ⟨_, _, rfl, ?_, fun _ => rfl⟩
    have h1 : (Utf8.decode s i).1 = 65533 → (Utf8.decode s i).2 = 3 := fun h => by
      rw [Lib.decode_at] at h hb ⊢
      rcases decodeN_err _ _ _ _ _ h (by omega) with h | h
      · exact h
      · exact absurd ⟨h.1, by omega⟩ hb
    rw [Bool.eq_iff_iff]
    simp only [Bool.and_eq_true, Bool.or_eq_true, Bool.not_eq_true', leI_iff, ltI_iff, eqI_iff, eqI_false, plainD, decide_eq_true_eq]
    omega
theorem ext_ext (s : ByteArray) (i j : Nat) : (s.extract i s.size).extract j (s.extract i s.size).size = s.extract (i + j) s.size := by
  rw [ByteArray.extract_extract, size_extract', Nat.min_self]
  by_cases h : i ≤ s.size
  · rw [show i + (s.size - i) = s.size by omega, Nat.min_self]
  · apply ByteArray.ext_getElem
    · rw [size_extract', size_extract']; omega
    · intro k h1 h2
      rw [size_extract'] at h2; omega
theorem ext_zero (s : ByteArray) : s.extract 0 s.size = s := ByteArray.extract_zero_size
end Go.Awp
set_option linter.unusedSimpArgs false
set_option linter.unusedVariables false
namespace Go.Awp
theorem downTo {M : Nat → Prop} (n : Nat) (hend : M n) (hstep : ∀ i, i < n → M (i + 1) → M i) : M 0 := by
  have : ∀ m i, i + m = n → M i := fun m => by
    induction m with
    | zero => intro i hi; rw [show i = n by omega]; exact hend
    | succ m ih => exact fun i hi => hstep i (by omega) (ih (i + 1) (by omega))
  exact this n 0 (by omega)
theorem Tot.opt {α : Type} [Inhabited α] {c : Bool} {a : Nat → Option α} (h : c = true → Tot a) : Tot (fun k => bif c then a k else some default) := EvP.opt h fun _ => trivial
theorem Tot.some {α : Type} {x : α} : Tot (fun _ => Option.some x) := EvP.some trivial
theorem Tot.then {α β : Type} {f : Nat → Option α} {g : Nat → α → Option β} {P : β → Prop} (h : Tot f) (hg : ∀ x, EvP (fun k => g k x) P) : EvP (fun k => (f k).bind (g k)) P := EvP.bind (h.mono fun x _ => hg x)
theorem half_mid (a b n : Nat) (h : a < b) (hb : b ≤ n) (hn : n < 4611686018427387904) : IntKind.wrap .i64 (shrI .u64 (IntKind.wrap .u64 (IntKind.wrap .i64 ((a : Int) + (b : Int)))) 1) = (((a + b) / 2 : Nat) : Int) := by
  rw [i64z (n := (a : Int) + (b : Int)) (by omega), IntWalk.u64_in _ (by omega)]
  have e : shrI .u64 ((a : Int) + (b : Int)) 1 = (((a + b) / 2 : Nat) : Int) := by
    show Int.fdiv ((a : Int) + (b : Int)) (2 ^ 1) = _
    rw [Int.fdiv_eq_ediv_of_nonneg _ (by omega)]
    omega
  rw [e, i64z (by omega)]
/-- It answers the first that is not less. -/
theorem bin_ev {α : Type} [Inhabited α] {p : Nat → α → Option Int} {q : α → Int} {l : List α} {f : Nat → (Int × Int) → Option Int} (hl : l.length < 4611686018427387904)
    (h1 : ∀ k a b, f (k + 1) (a, b) = bif ltI a b then (bnd (shrI .u64 (IntKind.wrap .u64 (IntKind.wrap .i64 (a + b))) 1) fun t => bif inR (IntKind.wrap .i64 t) l.length then ((p k (rd l (IntKind.wrap .i64 t))).bind fun c => bif ltI c 0 then f k (IntKind.wrap .i64 (IntKind.wrap .i64 t + 1), b) else f k (a, IntKind.wrap .i64 t)) else none) else some a)
    (hp : ∀ x ∈ l, Ev (fun k => p k x) (q x)) (hs : ∀ i j, i < j → j < l.length → q (rd l (j : Int)) < 0 → q (rd l (i : Int)) < 0) :
    EvP (fun k => f k (0, (l.length : Int))) (fun r => ∃ n : Nat, r = (n : Int) ∧ n ≤ l.length ∧ (∀ i, i < n → q (rd l (i : Int)) < 0) ∧ ∀ i, n ≤ i → i < l.length → ¬ q (rd l (i : Int)) < 0) := by
  have go : ∀ (m a b : Nat), b - a ≤ m → a ≤ b → b ≤ l.length → (∀ i, i < a → q (rd l (i : Int)) < 0) → (∀ i, b ≤ i → i < l.length → ¬ q (rd l (i : Int)) < 0) →
      EvP (fun k => f k ((a : Int), (b : Int))) (fun r => ∃ n : Nat, r = (n : Int) ∧ n ≤ l.length ∧ (∀ i, i < n → q (rd l (i : Int)) < 0) ∧ ∀ i, n ≤ i → i < l.length → ¬ q (rd l (i : Int)) < 0) := fun m => by
    induction m with
    | zero =>
      intro a b h0 h2 h3 h4 h5
      refine EvP.succ (fun k => h1 k _ _) ?_
      rw [ltI_nat, decide_eq_false (by omega)]
      exact EvP.some ⟨a, rfl, by omega, h4, fun i hi => h5 i (by omega)⟩
    | succ m ih =>
      intro a b h0 h2 h3 h4 h5
      refine EvP.succ (fun k => h1 k _ _) ?_
      rw [ltI_nat]
      refine EvP.cond (fun hc => EvP.bnd ?_) fun hc => EvP.some ⟨a, rfl, by omega, h4, fun i hi => h5 i (by have := of_decide_eq_false hc; omega)⟩
      have hab := of_decide_eq_true hc
      rw [half_mid a b l.length hab h3 hl]
      have hi : (a + b) / 2 < l.length := by omega
      rw [inR_mk hi, i64z (by omega)]
      refine EvP.bind ((hp _ (by rw [rd_nat _ _ hi]; simp)).evP.mono fun c hc2 => ?_)
      subst hc2
      refine EvP.cond (fun hlt => ?_) fun hlt => ?_
      · rw [ltI_iff] at hlt
        exact ih ((a + b) / 2 + 1) b (by omega) (by omega) h3 (fun i hi2 => by
          by_cases e : i = (a + b) / 2
          · subst e; exact hlt
          · exact hs i _ (by omega) hi hlt) h5
      · rw [ltI_false] at hlt
        exact ih a ((a + b) / 2) (by omega) (by omega) (by omega) h4 fun i hi2 hi3 hh => by
          by_cases e : i = (a + b) / 2
          · subst e; omega
          · have := hs _ i (by omega : (a + b) / 2 < i) hi3 hh
            omega
  exact go l.length 0 l.length (by omega) (by omega) (Nat.le_refl _) (fun i hi => by omega) fun i hi hi2 => by omega
/-- A loop that stops at the first that fails. -/
def allFrom (q : Nat → Bool) : Nat → Nat → Bool
  | 0, _ => true
  | m + 1, i => q i && allFrom q m (i + 1)
theorem allFrom_iff (q : Nat → Bool) : ∀ m i, allFrom q m i = true ↔ ∀ j, i ≤ j → j < i + m → q j = true
  | 0, i => by simp [allFrom]; omega
  | m + 1, i => by
    rw [allFrom, Bool.and_eq_true, allFrom_iff q m (i + 1)]
    constructor
    · rintro ⟨h1, h2⟩ j hj hlt
      by_cases e : j = i
      · subst e; exact h1
      · exact h2 j (by omega) (by omega)
    · intro h; exact ⟨h i (by omega) (by omega), fun j hj hlt => h j (by omega) (by omega)⟩
theorem all_ev {R : Type} {f : Nat → Int → Option (LR R Unit)} {n : Nat} {q : Nat → Bool} {r : R} (hend : Ev (fun k => f k (n : Int)) (.out ()))
    (hstep : ∀ i, i < n → ∀ v, Ev (fun k => f k ((i + 1 : Nat) : Int)) v → Ev (fun k => f k (i : Int)) (if q i = true then v else .ret r)) : Ev (fun k => f k 0) (if allFrom q n 0 = true then .out () else .ret r) := by
  have : ∀ m i, i + m = n → Ev (fun k => f k (i : Int)) (if allFrom q m i = true then .out () else .ret r) := fun m => by
    induction m with
    | zero => intro i hi; rw [show i = n by omega]; exact hend
    | succ m ih =>
      intro i hi
      have := hstep i (by omega) _ (ih (i + 1) (by omega))
      rw [allFrom]
      cases hq : q i with
      | true => rw [hq] at this; simpa using this
      | false => rw [hq] at this; simpa using this
  exact this n 0 (by omega)
end Go.Awp
set_option linter.unusedSimpArgs false
set_option linter.unusedVariables false
namespace Go.Awp
section
variable {P : Program} {ops : Array Oper} {G : Call0} {o : Oper} {m : St} {r : List Oper} {K : St → Prop} {acc : LL} {KL : LL → St → Prop}
def hdB (o : Oper) (d nt : Nat) : Bool := o.guard.isNone && (o.dst == some d && Nat.ble (d + 1) nt)
theorem hd_of {d nt : Nat} (h : hdB o d nt = true) : GOn ops o m ∧ o.dst = some d ∧ d < nt := by
  simp only [hdB, Bool.and_eq_true, Option.isNone_iff_eq_none, beq_iff_eq] at h
  exact ⟨by unfold GOn; rw [h.1]; trivial, h.2.1, Nat.le_of_ble_eq_true h.2.2⟩
def gdS (ops : Array Oper) (o : Oper) (d nt : Nat) (b : Bool) : Option Nat := match o.guard with
  | some (j, b') => bif (b' == b) && (o.dst == some d && Nat.ble (d + 1) nt) then (ops[j]?).bind (·.dst) else none
  | none => none
theorem gd_of {d nt t : Nat} {b : Bool} (h : gdS ops o d nt b = some t) : ∃ j, o.guard = some (j, b) ∧ (ops[j]?).bind (·.dst) = some t ∧ o.dst = some d ∧ d < nt := by
  unfold gdS at h
  cases hg : o.guard with
  | none => rw [hg] at h; cases h
  | some q =>
    obtain ⟨j, b'⟩ := q
    rw [hg] at h
    simp only at h
    cases hc : (b' == b) && (o.dst == some d && Nat.ble (d + 1) nt) with
    | false => rw [hc] at h; cases h
    | true =>
      rw [hc] at h
      simp only [Bool.and_eq_true, beq_iff_eq] at hc
      exact ⟨j, by rw [hc.1], h, hc.2.1, Nat.le_of_ble_eq_true hc.2.2⟩
def mvS (o : Oper) (d nt : Nat) : Option Operand := bif hdB o d nt then (match o.op with | .move x => some x | .assign x => some x | _ => none) else none
theorem mv_of {d nt : Nat} {x : Operand} (h : mvS o d nt = some x) : hdB o d nt = true ∧ (o.op = .move x ∨ o.op = .assign x) := by
  unfold mvS at h
  cases hc : hdB o d nt with
  | false => rw [hc] at h; cases h
  | true =>
    rw [hc] at h
    refine ⟨rfl, ?_⟩
    cases ho : o.op <;> rw [ho] at h <;> simp at h
    · subst h; exact .inl rfl
    · subst h; exact .inr rfl
theorem sT (d : Nat) (X : V) {rd : List Loc} (hh : hdB o d G.nt = true) (f : GOn ops o m → o.dst = some d → d < G.nt → Valid P ops G o m ⟨rd, [(.t d, X)]⟩) (h : SQ P ops G r K (updL m [(.t d, X)])) : SQ P ops G (o :: r) K m :=
  sq_cons ⟨rd, [(.t d, X)]⟩ (f (hd_of hh).1 (hd_of (ops := ops) (m := m) hh).2.1 (hd_of (ops := ops) (m := m) hh).2.2) h
theorem rT (d : Nat) (X : V) {rd : List Loc} (hh : hdB o d G.nt = true) (f : GOn ops o m → o.dst = some d → d < G.nt → Valid P ops G o m ⟨rd, [(.t d, X)]⟩) (h : RG P ops G r (acc ++ [(rd, [.t d])]) KL (updL m [(.t d, X)])) : RG P ops G (o :: r) acc KL m :=
  rg_cons ⟨rd, [(.t d, X)]⟩ (f (hd_of hh).1 (hd_of (ops := ops) (m := m) hh).2.1 (hd_of (ops := ops) (m := m) hh).2.2) h
theorem sM (d : Nat) (X : V) {x : Operand} (hh : mvS o d G.nt = some x) (hx : evO m x = X) (h : SQ P ops G r K (updL m [(.t d, X)])) : SQ P ops G (o :: r) K m :=
  sT d X (mv_of hh).1 (fun a b c => v_move (mv_of hh).2 a b c hx) h
theorem rM (d : Nat) (X : V) {x : Operand} (hh : mvS o d G.nt = some x) (hx : evO m x = X) (h : RG P ops G r (acc ++ [(gloc ops o ++ lo x, [.t d])]) KL (updL m [(.t d, X)])) : RG P ops G (o :: r) acc KL m :=
  rT d X (mv_of hh).1 (fun a b c => v_move (mv_of hh).2 a b c hx) h
theorem vF {d t : Nat} {X : V} {c : Bool} {rd : List Loc} (hg : gdS ops o d G.nt false = some t) (ht : m (.t t) = bV c) (f : c = false → GOn ops o m → o.dst = some d → d < G.nt → Valid P ops G o m ⟨rd, [(.t d, X)]⟩) : Valid P ops G o m ⟨.t t :: rd, [(.t d, mg (!c) X)]⟩ := by
  obtain ⟨j, h1, h2, h3, h4⟩ := gd_of hg
  exact v_cF h1 h2 h3 h4 ht fun e => f e (by unfold GOn; rw [h1]; exact ⟨t, h2, by rw [ht, e]⟩) h3 h4
theorem vT {d t : Nat} {X : V} {c : Bool} {rd : List Loc} (hg : gdS ops o d G.nt true = some t) (ht : m (.t t) = bV c) (f : c = true → GOn ops o m → o.dst = some d → d < G.nt → Valid P ops G o m ⟨rd, [(.t d, X)]⟩) : Valid P ops G o m ⟨.t t :: rd, [(.t d, mg c X)]⟩ := by
  obtain ⟨j, h1, h2, h3, h4⟩ := gd_of hg
  exact v_cT h1 h2 h3 h4 ht fun e => f e (by unfold GOn; rw [h1]; exact ⟨t, h2, by rw [ht, e]⟩) h3 h4
theorem wF {d t : Nat} {X : V} {g c : Bool} {rd : List Loc} (hg : gdS ops o d G.nt false = some t) (ht : m (.t t) = mg g (bV c)) (f : g = true → c = false → GOn ops o m → o.dst = some d → d < G.nt → Valid P ops G o m ⟨rd, [(.t d, X)]⟩) : Valid P ops G o m ⟨.t t :: rd, [(.t d, mg (g && !c) X)]⟩ := by
  obtain ⟨j, h1, h2, h3, h4⟩ := gd_of hg
  exact v_mF h1 h2 h3 h4 ht fun e e2 => f e e2 (by unfold GOn; rw [h1]; exact ⟨t, h2, by rw [ht]; exact bm e e2⟩) h3 h4
theorem wT {d t : Nat} {X : V} {g c : Bool} {rd : List Loc} (hg : gdS ops o d G.nt true = some t) (ht : m (.t t) = mg g (bV c)) (f : g = true → c = true → GOn ops o m → o.dst = some d → d < G.nt → Valid P ops G o m ⟨rd, [(.t d, X)]⟩) : Valid P ops G o m ⟨.t t :: rd, [(.t d, mg (g && c) X)]⟩ := by
  obtain ⟨j, h1, h2, h3, h4⟩ := gd_of hg
  exact v_mT h1 h2 h3 h4 ht fun e e2 => f e e2 (by unfold GOn; rw [h1]; exact ⟨t, h2, by rw [ht]; exact bm e e2⟩) h3 h4
theorem sF (d : Nat) (X : V) {t : Nat} {c : Bool} {rd : List Loc} (hg : gdS ops o d G.nt false = some t) (ht : m (.t t) = bV c) (f : c = false → GOn ops o m → o.dst = some d → d < G.nt → Valid P ops G o m ⟨rd, [(.t d, X)]⟩) (h : SQ P ops G r K (updL m [(.t d, mg (!c) X)])) : SQ P ops G (o :: r) K m := sq_cons ⟨_, [(.t d, mg (!c) X)]⟩ (vF hg ht f) h
theorem rF (d : Nat) (X : V) {t : Nat} {c : Bool} {rd : List Loc} (hg : gdS ops o d G.nt false = some t) (ht : m (.t t) = bV c) (f : c = false → GOn ops o m → o.dst = some d → d < G.nt → Valid P ops G o m ⟨rd, [(.t d, X)]⟩) (h : RG P ops G r (acc ++ [(.t t :: rd, [.t d])]) KL (updL m [(.t d, mg (!c) X)])) : RG P ops G (o :: r) acc KL m := rg_cons ⟨_, [(.t d, mg (!c) X)]⟩ (vF hg ht f) h
theorem sG (d : Nat) (X : V) {t : Nat} {c : Bool} {rd : List Loc} (hg : gdS ops o d G.nt true = some t) (ht : m (.t t) = bV c) (f : c = true → GOn ops o m → o.dst = some d → d < G.nt → Valid P ops G o m ⟨rd, [(.t d, X)]⟩) (h : SQ P ops G r K (updL m [(.t d, mg c X)])) : SQ P ops G (o :: r) K m := sq_cons ⟨_, [(.t d, mg c X)]⟩ (vT hg ht f) h
theorem rG (d : Nat) (X : V) {t : Nat} {c : Bool} {rd : List Loc} (hg : gdS ops o d G.nt true = some t) (ht : m (.t t) = bV c) (f : c = true → GOn ops o m → o.dst = some d → d < G.nt → Valid P ops G o m ⟨rd, [(.t d, X)]⟩) (h : RG P ops G r (acc ++ [(.t t :: rd, [.t d])]) KL (updL m [(.t d, mg c X)])) : RG P ops G (o :: r) acc KL m := rg_cons ⟨_, [(.t d, mg c X)]⟩ (vT hg ht f) h
theorem sH (d : Nat) (X : V) {t : Nat} {g c : Bool} {rd : List Loc} (hg : gdS ops o d G.nt false = some t) (ht : m (.t t) = mg g (bV c)) (f : g = true → c = false → GOn ops o m → o.dst = some d → d < G.nt → Valid P ops G o m ⟨rd, [(.t d, X)]⟩) (h : SQ P ops G r K (updL m [(.t d, mg (g && !c) X)])) : SQ P ops G (o :: r) K m := sq_cons ⟨_, [(.t d, mg (g && !c) X)]⟩ (wF hg ht f) h
theorem rH (d : Nat) (X : V) {t : Nat} {g c : Bool} {rd : List Loc} (hg : gdS ops o d G.nt false = some t) (ht : m (.t t) = mg g (bV c)) (f : g = true → c = false → GOn ops o m → o.dst = some d → d < G.nt → Valid P ops G o m ⟨rd, [(.t d, X)]⟩) (h : RG P ops G r (acc ++ [(.t t :: rd, [.t d])]) KL (updL m [(.t d, mg (g && !c) X)])) : RG P ops G (o :: r) acc KL m := rg_cons ⟨_, [(.t d, mg (g && !c) X)]⟩ (wF hg ht f) h
theorem sI (d : Nat) (X : V) {t : Nat} {g c : Bool} {rd : List Loc} (hg : gdS ops o d G.nt true = some t) (ht : m (.t t) = mg g (bV c)) (f : g = true → c = true → GOn ops o m → o.dst = some d → d < G.nt → Valid P ops G o m ⟨rd, [(.t d, X)]⟩) (h : SQ P ops G r K (updL m [(.t d, mg (g && c) X)])) : SQ P ops G (o :: r) K m := sq_cons ⟨_, [(.t d, mg (g && c) X)]⟩ (wT hg ht f) h
theorem rI (d : Nat) (X : V) {t : Nat} {g c : Bool} {rd : List Loc} (hg : gdS ops o d G.nt true = some t) (ht : m (.t t) = mg g (bV c)) (f : g = true → c = true → GOn ops o m → o.dst = some d → d < G.nt → Valid P ops G o m ⟨rd, [(.t d, X)]⟩) (h : RG P ops G r (acc ++ [(.t t :: rd, [.t d])]) KL (updL m [(.t d, mg (g && c) X)])) : RG P ops G (o :: r) acc KL m := rg_cons ⟨_, [(.t d, mg (g && c) X)]⟩ (wT hg ht f) h
theorem sr {id : Nat} {ops : Array Oper} {y : Code} {Q : Exit → St → Prop} (h : SQ P ops G ops.toList (thenQ (HT P G y Q) Q .normal) m) : HT P G (.seq (.region id ops false) y) Q m := ht_seq (ht_region h)
/-- Facts of a program, shortly. -/
def EnT (P : Program) (g : FuncId) : Prop := ∀ args w, (callFunc g args).run P w = .ok (.enter g args) w
def FoT (P : Program) (S f a0 : Nat) : Prop := ∀ w a, (Instr.fieldAt S (.pointer (some a)) f).run P w = .ok (.pointer (some (a.add a0))) w
end
end Go.Awp
set_option linter.unusedSimpArgs false
set_option linter.unusedVariables false
namespace Go.Awp
section
variable {P : Program} {ops : Array Oper} {G : Call0} {o : Oper} {m : St} {r : List Oper} {K : St → Prop} {acc : LL} {KL : LL → St → Prop}
def clO (o : Oper) : Option (FuncId × Array Operand) := match o.op with
  | .call c => (match c.callee with
    | .value (.func g) => some (g, c.args)
    | _ => none)
  | _ => none
theorem cl_of {g : FuncId} {xs : Array Operand} (h : clO o = some (g, xs)) : ∃ c, o.op = .call c ∧ c.callee = .value (.func g) ∧ c.args = xs := by
  unfold clO at h
  split at h
  · rename_i c hc
    split at h
    · rename_i g' hg
      simp only [Option.some.injEq, Prod.mk.injEq] at h
      obtain ⟨rfl, rfl⟩ := h
      exact ⟨c, hc, hg, rfl⟩
    · cases h
  · cases h
theorem vC {d : Nat} {g : FuncId} {xs : Array Operand} {ds l : List D} {X : V} (hs : Spec P G.A g ds (.ds l)) (hen : EnT P g) (hg : GOn ops o m) (hdst : o.dst = some d) (hd : d < G.nt) (hcl : clO o = some (g, xs)) (hx : xs.toList.map (evO m) = ds.map .d) (hX : retV l = X) :
    Valid P ops G o m ⟨gloc ops o ++ (lo (.func g) ++ xs.toList.flatMap lo), [(.t d, X)]⟩ := by
  obtain ⟨c, h1, h2, h3⟩ := cl_of hcl
  exact w_call (caps := []) (by rw [List.append_nil]; exact hs) h1 h2 h3 hen hg hdst hd (.inl ⟨rfl, rfl⟩) hx hX
theorem sC (d : Nat) (X : V) {g : FuncId} {xs : Array Operand} {ds l : List D} (hs : Spec P G.A g ds (.ds l)) (hen : EnT P g) (hh : hdB o d G.nt = true) (hcl : clO o = some (g, xs)) (hx : xs.toList.map (evO m) = ds.map .d) (hX : retV l = X) (h : SQ P ops G r K (updL m [(.t d, X)])) : SQ P ops G (o :: r) K m :=
  sT d X hh (fun a b c => vC hs hen a b c hcl hx hX) h
theorem rC (d : Nat) (X : V) {g : FuncId} {xs : Array Operand} {ds l : List D} (hs : Spec P G.A g ds (.ds l)) (hen : EnT P g) (hh : hdB o d G.nt = true) (hcl : clO o = some (g, xs)) (hx : xs.toList.map (evO m) = ds.map .d) (hX : retV l = X) (h : RG P ops G r (acc ++ [(gloc ops o ++ (lo (.func g) ++ xs.toList.flatMap lo), [.t d])]) KL (updL m [(.t d, X)])) : RG P ops G (o :: r) acc KL m :=
  rT d X hh (fun a b c => vC hs hen a b c hcl hx hX) h
def stO (o : Oper) : Option (TypeId × Operand × Operand) := bif o.guard.isNone && o.dst.isNone then (match o.op with
  | .store T x y => some (T, x, y)
  | _ => none) else none
theorem st_of {T : TypeId} {x y : Operand} (h : stO o = some (T, x, y)) : o.op = .store T x y ∧ GOn ops o m ∧ o.dst = none := by
  unfold stO at h
  cases hc : o.guard.isNone && o.dst.isNone with
  | false => rw [hc] at h; cases h
  | true =>
    rw [hc] at h
    rw [Bool.and_eq_true, Option.isNone_iff_eq_none, Option.isNone_iff_eq_none] at hc
    refine ⟨?_, by unfold GOn; rw [hc.1]; trivial, hc.2⟩
    cases ho : o.op <;> rw [ho] at h <;> simp at h
    obtain ⟨rfl, rfl, rfl⟩ := h
    rfl
theorem sS (id off : Nat) {n : Nat} {T : TypeId} {x y : Operand} {Y : V} (cs : List V) (hsz : ∀ w, (sizeOf T).run P w = .ok cs.length w) (hh : stO o = some (T, x, y)) (hx : evO m x = .ptr id off) (hb : m (.b id) = .box false n) (hy : evO m y = Y) (hcs : Y.cellsV = cs) (h1 : ∀ c ∈ cs, c.one = true) (hk : Nat.ble (off + cs.length) n = true)
    (h : SQ P ops G r K (updL m (cellsW id off cs))) : SQ P ops G (o :: r) K m :=
  sq_cons _ (v_store_box (st_of (ops := ops) (m := m) hh).1 (st_of hh).2.1 (st_of (ops := ops) (m := m) hh).2.2 hsz hx hb hy hcs h1 (Nat.le_of_ble_eq_true hk)) h
theorem rS (id off : Nat) {n : Nat} {T : TypeId} {x y : Operand} {Y : V} (cs : List V) (hsz : ∀ w, (sizeOf T).run P w = .ok cs.length w) (hh : stO o = some (T, x, y)) (hx : evO m x = .ptr id off) (hb : m (.b id) = .box false n) (hy : evO m y = Y) (hcs : Y.cellsV = cs) (h1 : ∀ c ∈ cs, c.one = true) (hk : Nat.ble (off + cs.length) n = true)
    (h : RG P ops G r (acc ++ [(gloc ops o ++ (lo x ++ (lo y ++ [.b id])), (cellsW id off cs).map (·.1))]) KL (updL m (cellsW id off cs))) : RG P ops G (o :: r) acc KL m :=
  rg_cons _ (v_store_box (st_of (ops := ops) (m := m) hh).1 (st_of hh).2.1 (st_of (ops := ops) (m := m) hh).2.2 hsz hx hb hy hcs h1 (Nat.le_of_ble_eq_true hk)) h
def fdO (o : Oper) : Option (TypeId × Operand × Nat) := match o.op with
  | .fieldAddr S x f => some (S, x, f)
  | _ => none
theorem fd_of {S f : Nat} {x : Operand} (h : fdO o = some (S, x, f)) : o.op = .fieldAddr S x f := by
  unfold fdO at h
  cases ho : o.op <;> rw [ho] at h <;> simp at h
  obtain ⟨rfl, rfl, rfl⟩ := h
  rfl
theorem vD {d S f a0 : Nat} (cs : List D) {x : Operand} (hf : FoT P S f a0) (hg : GOn ops o m) (hdst : o.dst = some d) (hd : d < G.nt) (hop : fdO o = some (S, x, f)) (hx : evO m x = .d (.dp cs)) : Valid P ops G o m ⟨gloc ops o ++ lo x, [(.t d, .d (.dp (cs.drop a0)))]⟩ :=
  v_field_dp (fd_of hop) hg hdst hd hf hx
theorem sD (d : Nat) {S f a0 : Nat} (cs : List D) {x : Operand} (hf : FoT P S f a0) (hh : hdB o d G.nt = true) (hop : fdO o = some (S, x, f)) (hx : evO m x = .d (.dp cs)) (h : SQ P ops G r K (updL m [(.t d, .d (.dp (cs.drop a0)))])) : SQ P ops G (o :: r) K m :=
  sT d _ hh (fun a b c => vD cs hf a b c hop hx) h
theorem rD (d : Nat) {S f a0 : Nat} (cs : List D) {x : Operand} (hf : FoT P S f a0) (hh : hdB o d G.nt = true) (hop : fdO o = some (S, x, f)) (hx : evO m x = .d (.dp cs)) (h : RG P ops G r (acc ++ [(gloc ops o ++ lo x, [.t d])]) KL (updL m [(.t d, .d (.dp (cs.drop a0)))])) : RG P ops G (o :: r) acc KL m :=
  rT d _ hh (fun a b c => vD cs hf a b c hop hx) h
def ldO (o : Oper) : Option (TypeId × Operand) := match o.op with
  | .load T x => some (T, x)
  | _ => none
theorem ld_of {T : Nat} {x : Operand} (h : ldO o = some (T, x)) : o.op = .load T x := by
  unfold ldO at h
  cases ho : o.op <;> rw [ho] at h <;> simp at h
  obtain ⟨rfl, rfl⟩ := h
  rfl
theorem sP (d : Nat) {T k : Nat} {x : Operand} (cs xs : List D) (hT : AggT P T k) (hh : hdB o d G.nt = true) (hop : ldO o = some (T, x)) (hx : evO m x = .d (.dp cs)) (hk : Nat.ble k cs.length = true) (hX : cs.take k = xs) (h : SQ P ops G r K (updL m [(.t d, .d (.agg xs))])) : SQ P ops G (o :: r) K m :=
  sT d _ hh (fun a b c => w_ldp cs xs (ld_of hop) a b c hT hx (Nat.le_of_ble_eq_true hk) hX) h
theorem rP (d : Nat) {T k : Nat} {x : Operand} (cs xs : List D) (hT : AggT P T k) (hh : hdB o d G.nt = true) (hop : ldO o = some (T, x)) (hx : evO m x = .d (.dp cs)) (hk : Nat.ble k cs.length = true) (hX : cs.take k = xs) (h : RG P ops G r (acc ++ [(gloc ops o ++ lo x, [.t d])]) KL (updL m [(.t d, .d (.agg xs))])) : RG P ops G (o :: r) acc KL m :=
  rT d _ hh (fun a b c => w_ldp cs xs (ld_of hop) a b c hT hx (Nat.le_of_ble_eq_true hk) hX) h
end
end Go.Awp
set_option linter.unusedSimpArgs false
set_option linter.unusedVariables false
namespace Go.Awp
section
variable {P : Program} {ops : Array Oper} {G : Call0} {o : Oper} {m : St}
theorem vb {d : Nat} {op : BinOp} {T T' : TypeId} {x y : Operand} {u v r : Value} (hop : o.op = .binOp op T x y T') (hx : evO m x = .d (.s u)) (hy : evO m y = .d (.s v)) (hr : ∀ w, (do eqGuard op T x y u v; binOp op T u v : Sem Value).run P w = .ok r w) (hg : GOn ops o m) (hdst : o.dst = some d) (hd : d < G.nt) :
    Valid P ops G o m ⟨gloc ops o ++ (lo x ++ lo y), [(.t d, .d (.s r))]⟩ := v_bin hop hg hdst hd hx hy hr
theorem vl {d T : Nat} {x : Operand} {cs : List D} {X : D} (hop : o.op = .load T x) (hT : OneT P T) (hx : evO m x = .d (.dp cs)) (hX : cs[0]? = some X) (hg : GOn ops o m) (hdst : o.dst = some d) (hd : d < G.nt) :
    Valid P ops G o m ⟨gloc ops o ++ lo x, [(.t d, .d X)]⟩ := v_load_dp1 hop hg hdst hd hT hx hX
theorem vp {d : Nat} {c x y : Operand} {b vx vy r : Bool} (hop : o.op = .pick c x y) (hc : evO m c = bV b) (hx : b = true → evO m x = bV vx) (hy : b = false → evO m y = bV vy) (hr : (bif b then vx else vy) = r) (hg : GOn ops o m) (hdst : o.dst = some d) (hd : d < G.nt) :
    Valid P ops G o m ⟨gloc ops o ++ (lo c ++ (lo x ++ lo y)), [(.t d, bV r)]⟩ := v_pickB hop hg hdst hd hc hx hy hr
theorem vm {d : Nat} {x : Operand} {X : V} (hop : o.op = .move x) (hx : evO m x = X) (hg : GOn ops o m) (hdst : o.dst = some d) (hd : d < G.nt) : Valid P ops G o m ⟨gloc ops o ++ lo x, [(.t d, X)]⟩ := v_move (.inl hop) hg hdst hd hx
theorem vu {d : Nat} {op : UnOp} {T : TypeId} {x : Operand} {u r : Value} (hop : o.op = .unOp op T x) (hx : evO m x = .d (.s u)) (hr : ∀ w, (Op.unary op u).run P w = .ok r w) (hg : GOn ops o m) (hdst : o.dst = some d) (hd : d < G.nt) :
    Valid P ops G o m ⟨gloc ops o ++ lo x, [(.t d, .d (.s r))]⟩ := v_un hop hg hdst hd hx hr
theorem ve {d i : Nat} {x : Operand} {vs : List V} {X : V} (hop : o.op = .extract x i) (hx : evO m x = .tup vs) (hi : vs[i]? = some X) (hg : GOn ops o m) (hdst : o.dst = some d) (hd : d < G.nt) : Valid P ops G o m ⟨gloc ops o ++ lo x, [(.t d, X)]⟩ := v_extract hop hg hdst hd hx hi
theorem sz {Q Q' : Exit → St → Prop} (h : Q .ret m) : SQ P ops G [] (thenQ (HT P G .ret Q) Q' .normal) m := sq_nil (ht_ret h)
def tellL (m : St) (σ : Nat → Nat) : List (Loc × V) → List V
  | [] => []
  | p :: r => m (renLoc σ p.1) :: tellL m σ r
def tellR (σ : Nat → Nat) : List (Loc × V) → List V
  | [] => []
  | p :: r => renV σ p.2 :: tellR σ r
theorem tell_eq (σ : Nat → Nat) : ∀ (L : List (Loc × V)), tellL m σ L = tellR σ L → TellOK m σ L
  | [], _ => trivial
  | p :: r, h => by
    simp only [tellL, tellR, List.cons.injEq] at h
    exact ⟨h.1, tell_eq σ r h.2⟩
theorem wi {L : List (Loc × V)} (hB : tellB (fun i => i) L = true) (h : tellL m (fun i => i) L = tellR (fun i => i) L) : Wk G m (tell L) := wk_ren L _ hB (tell_eq _ L h)
theorem wr {L : List (Loc × V)} (σ : Nat → Nat) (hB : tellB σ L = true) (h : tellL m σ L = tellR σ L) : Wk G m (tell L) := wk_ren L σ hB (tell_eq σ L h)
end
end Go.Awp
set_option linter.unusedSimpArgs false
set_option linter.unusedVariables false
namespace Go.Awp
/-- Which comes first? -/
def cmpL : List Nat → List Nat → Int
  | [], [] => 0
  | [], _ :: _ => -1
  | _ :: _, [] => 1
  | a :: x, b :: y => if a < b then -1 else if b < a then 1 else cmpL x y
theorem cmpL_self : ∀ l, cmpL l l = 0
  | [] => rfl
  | a :: x => by rw [cmpL, if_neg (Nat.lt_irrefl _), if_neg (Nat.lt_irrefl _)]; exact cmpL_self x
theorem cmpL_anti : ∀ a b, cmpL b a = - cmpL a b
  | [], [] => rfl
  | [], _ :: _ => rfl
  | _ :: _, [] => rfl
  | a :: x, b :: y => by
    rw [cmpL, cmpL]
    by_cases h1 : a < b
    · rw [if_neg (by omega), if_pos h1, if_pos h1]; rfl
    · by_cases h2 : b < a
      · rw [if_pos h2, if_neg h1, if_pos h2]
      · rw [if_neg h2, if_neg h1, if_neg h1, if_neg h2]; exact cmpL_anti x y
theorem cmpL_range : ∀ a b, cmpL a b = -1 ∨ cmpL a b = 0 ∨ cmpL a b = 1
  | [], [] => .inr (.inl rfl)
  | [], _ :: _ => .inl rfl
  | _ :: _, [] => .inr (.inr rfl)
  | a :: x, b :: y => by
    rw [cmpL]
    split
    · exact .inl rfl
    · split
      · exact .inr (.inr rfl)
      · exact cmpL_range x y
theorem cmpL_eq : ∀ a b, cmpL a b = 0 → a = b
  | [], [], _ => rfl
  | [], _ :: _, h => by simp [cmpL] at h
  | _ :: _, [], h => by simp [cmpL] at h
  | a :: x, b :: y, h => by
    rw [cmpL] at h
    split at h
    · cases h
    · split at h
      · cases h
      · rw [cmpL_eq x y h, show a = b by omega]
theorem cmpL_trans : ∀ a b c, cmpL a b < 0 → cmpL b c ≤ 0 → cmpL a c < 0
  | [], [], _, h, _ => by simp [cmpL] at h
  | [], _ :: _, [], _, h => by simp [cmpL] at h
  | [], _ :: _, _ :: _, _, _ => by simp [cmpL]
  | _ :: _, [], _, h, _ => by simp [cmpL] at h
  | _ :: _, _ :: _, [], _, h => by simp [cmpL] at h
  | a :: x, b :: y, c :: z, h, h' => by
    rw [cmpL] at h h' ⊢
    split at h
    · split at h'
      · rw [if_pos (by omega)]; decide
      · split at h'
        · omega
        · rw [if_pos (by omega)]; decide
    · split at h
      · omega
      · split at h'
        · rw [if_pos (by omega)]; decide
        · split at h'
          · omega
          · rw [if_neg (by omega), if_neg (by omega)]; exact cmpL_trans x y z h h'
/-- The runes from place i on. -/
def runesFrom (s : ByteArray) : Nat → Nat → List Nat
  | 0, _ => []
  | n + 1, i => if i < s.size then (Utf8.decode s i).1 :: runesFrom s n (i + (Utf8.decode s i).2) else []
theorem runesFrom_stable (s : ByteArray) : ∀ n m i, s.size - i ≤ n → s.size - i ≤ m → runesFrom s n i = runesFrom s m i
  | 0, 0, _, _, _ => rfl
  | 0, m + 1, i, h, _ => by rw [runesFrom, runesFrom, if_neg (by omega)]
  | n + 1, 0, i, _, h => by rw [runesFrom, runesFrom, if_neg (by omega)]
  | n + 1, m + 1, i, h, h' => by
    rw [runesFrom, runesFrom]
    split
    · have := dec_pos s i
      rw [runesFrom_stable s n m _ (by omega) (by omega)]
    · rfl
def runes (s : ByteArray) : List Nat := runesFrom s s.size 0
theorem runesFrom_ext (s : ByteArray) : ∀ n i j, i ≤ s.size → s.size - i - j ≤ n → runesFrom (s.extract i s.size) n j = runesFrom s n (i + j)
  | 0, _, _, _, _ => rfl
  | n + 1, i, j, hi, h => by
    rw [runesFrom, runesFrom]
    have hz : (s.extract i s.size).size = s.size - i := by rw [size_extract']; omega
    have hd : Utf8.decode (s.extract i s.size) j = Utf8.decode s (i + j) := by
      have h1 := dec_ext (s.extract i s.size) j
      rw [ext_ext, dec_ext] at h1
      exact h1.symm
    rw [hz, hd]
    by_cases hj : j < s.size - i
    · rw [if_pos hj, if_pos (by omega), runesFrom_ext s n i _ hi (by have := dec_pos s (i + j); omega), Nat.add_assoc]
    · rw [if_neg hj, if_neg (by omega)]
/-- The first rune and the others. -/
theorem runes_cons (s : ByteArray) (h : 0 < s.size) : runes s = (Utf8.decode s 0).1 :: runes (s.extract (Utf8.decode s 0).2 s.size) := by
  have hd := dec_le s 0 h
  have hp := dec_pos s 0
  rw [Nat.zero_add] at hd
  unfold runes
  rw [show s.size = (s.size - 1) + 1 by omega, runesFrom, if_pos h, show s.size - 1 + 1 = s.size by omega, Nat.zero_add, runesFrom_ext s _ _ 0 hd (by rw [size_extract']; omega), Nat.add_zero]
  rw [runesFrom_stable s (s.size - 1) (s.extract (Utf8.decode s 0).2 s.size).size _ (by omega) (by rw [size_extract']; omega)]
theorem runes_nil (s : ByteArray) (h : s.size = 0) : runes s = [] := by unfold runes; rw [h]; rfl
def cmpK (a b : ByteArray) : Int := cmpL (runes a) (runes b)
end Go.Awp
set_option linter.unusedSimpArgs false
set_option linter.unusedVariables false
namespace Go.Awp
/-- What a decoded rune tells of the bytes. -/
def Told (r w b0 b1 b2 b3 : Nat) : Prop :=
  (w = 1 ∧ r < 128 ∧ b0 = r) ∨ (w = 2 ∧ 128 ≤ r ∧ r < 2048 ∧ b0 = 192 + r / 64 ∧ b1 = 128 + r % 64) ∨
    (w = 3 ∧ 2048 ≤ r ∧ r < 65536 ∧ b0 = 224 + r / 4096 ∧ b1 = 128 + r / 64 % 64 ∧ b2 = 128 + r % 64) ∨
    (w = 4 ∧ 65536 ≤ r ∧ b0 = 240 + r / 262144 ∧ b1 = 128 + r / 4096 % 64 ∧ b2 = 128 + r / 64 % 64 ∧ b3 = 128 + r % 64)
theorem decodeN_told (n b0 b1 b2 b3 : Nat) (h0 : b0 < 256) (hv : (Lib.decodeN n b0 b1 b2 b3).1 ≠ 65533 ∨ (Lib.decodeN n b0 b1 b2 b3).2 = 3) : Told (Lib.decodeN n b0 b1 b2 b3).1 (Lib.decodeN n b0 b1 b2 b3).2 b0 b1 b2 b3 := by
  unfold Told
  by_cases c0 : b0 < 128
  · rw [dN1 _ _ _ _ _ c0]; exact .inl ⟨rfl, c0, rfl⟩
  by_cases c1 : 194 ≤ b0 ∧ b0 < 224
  · rw [dN2 _ _ _ _ _ c1] at hv ⊢
    split at hv
    · rename_i hc
      rw [if_pos hc, show b0 % 32 = b0 - 192 by omega, show b1 % 64 = b1 - 128 by omega]
      exact .inr (.inl ⟨rfl, by simp only; omega, by simp only; omega, by simp only; omega, by simp only; omega⟩)
    · simp at hv
  by_cases c2 : 224 ≤ b0 ∧ b0 < 240
  · rw [dN3 _ _ _ _ _ c2] at hv ⊢
    split at hv
    · rename_i hc
      rw [if_pos hc]
      split at hv
      · rename_i hd
        rw [if_pos hd]
        have e1 : b0 % 16 = b0 - 224 := by omega
        have e2 : b1 % 64 = b1 - 128 := by omega
        have e3 : b2 % 64 = b2 - 128 := by omega
        rw [e1, e2, e3] at hd ⊢
        exact .inr (.inr (.inl ⟨rfl, by simp only; omega, by simp only; omega, by simp only; omega, by simp only; omega, by simp only; omega⟩))
      · simp at hv
    · simp at hv
  by_cases c3 : 240 ≤ b0 ∧ b0 < 245
  · rw [dN4 _ _ _ _ _ c3] at hv ⊢
    split at hv
    · rename_i hc
      rw [if_pos hc]
      split at hv
      · rename_i hd
        rw [if_pos hd]
        have e1 : b0 % 8 = b0 - 240 := by omega
        have e2 : b1 % 64 = b1 - 128 := by omega
        have e3 : b2 % 64 = b2 - 128 := by omega
        have e4 : b3 % 64 = b3 - 128 := by omega
        rw [e1, e2, e3, e4] at hd ⊢
        exact .inr (.inr (.inr ⟨rfl, by simp only; omega, by simp only; omega, by simp only; omega, by simp only; omega, by simp only; omega⟩))
      · simp at hv
    · simp at hv
  · rw [dNx _ _ _ _ _ (by omega) c1 c2 c3 h0] at hv
    simp at hv
theorem told_inj {r w w' a0 a1 a2 a3 b0 b1 b2 b3 : Nat} (h : Told r w a0 a1 a2 a3) (h' : Told r w' b0 b1 b2 b3) : w = w' ∧ a0 = b0 ∧ (1 < w → a1 = b1) ∧ (2 < w → a2 = b2) ∧ (3 < w → a3 = b3) ∧ w ≤ 4 := by
  unfold Told at h h'
  omega
theorem dec_told (s : ByteArray) (i : Nat) (h : plainD (Utf8.decode s i) = true) : Told (Utf8.decode s i).1 (Utf8.decode s i).2 (s.get! i).toNat (s.get! (i + 1)).toNat (s.get! (i + 2)).toNat (s.get! (i + 3)).toNat := by
  unfold plainD at h
  rw [decide_eq_true_eq] at h
  rw [Lib.decode_at] at h ⊢
  exact decodeN_told _ _ _ _ _ (UInt8.toNat_lt _) h.2.2
theorem runes_bytes (a b : ByteArray) : ∀ (n m i : Nat), i ≤ a.size → i ≤ b.size → a.size - i ≤ n → b.size - i ≤ m → goodFrom a n i = true → goodFrom b m i = true → runesFrom a n i = runesFrom b m i → a.size = b.size ∧ ∀ k, i ≤ k → k < a.size → a.get! k = b.get! k
  | 0, 0, i, h1, h2, h3, h4, _, _, _ => ⟨by omega, fun k hk hk2 => by omega⟩
  | 0, m + 1, i, h1, h2, h3, h4, _, _, h => by
    rw [runesFrom, runesFrom] at h
    by_cases hb : i < b.size
    · rw [if_pos hb] at h; cases h
    · exact ⟨by omega, fun k hk hk2 => by omega⟩
  | n + 1, 0, i, h1, h2, h3, h4, _, _, h => by
    rw [runesFrom, runesFrom] at h
    by_cases hb : i < a.size
    · rw [if_pos hb] at h; cases h
    · exact ⟨by omega, fun k hk hk2 => by omega⟩
  | n + 1, m + 1, i, h1, h2, h3, h4, ga, gb, h => by
    rw [runesFrom, runesFrom] at h
    by_cases ha : i < a.size
    · by_cases hb : i < b.size
      · rw [if_pos ha, if_pos hb] at h
        rw [goodFrom, if_pos ha] at ga
        rw [goodFrom, if_pos hb] at gb
        have pa : plainD (Utf8.decode a i) = true := by
          by_cases c : plainD (Utf8.decode a i) = true
          · exact c
          · rw [if_neg c] at ga; cases ga
        have pb : plainD (Utf8.decode b i) = true := by
          by_cases c : plainD (Utf8.decode b i) = true
          · exact c
          · rw [if_neg c] at gb; cases gb
        rw [if_pos pa] at ga
        rw [if_pos pb] at gb
        have ta := dec_told a i pa
        have tb := dec_told b i pb
        injection h with e1 e2
        rw [← e1] at tb
        obtain ⟨w1, w2, w3, w4, w5, w6⟩ := told_inj ta tb
        have da := dec_le a i ha
        have db := dec_le b i hb
        have dp := dec_pos a i
        rw [← w1] at gb e2 db
        obtain ⟨q1, q2⟩ := runes_bytes a b n m (i + (Utf8.decode a i).2) (by omega) (by omega) (by omega) (by omega) ga gb e2
        refine ⟨q1, fun k hk hk2 => ?_⟩
        by_cases hlt : i + (Utf8.decode a i).2 ≤ k
        · exact q2 k hlt hk2
        · have : k = i ∨ (k = i + 1 ∧ 1 < (Utf8.decode a i).2) ∨ (k = i + 2 ∧ 2 < (Utf8.decode a i).2) ∨ (k = i + 3 ∧ 3 < (Utf8.decode a i).2) := by omega
          rcases this with rfl | ⟨rfl, hw⟩ | ⟨rfl, hw⟩ | ⟨rfl, hw⟩
          · exact UInt8.toNat_inj.1 w2
          · exact UInt8.toNat_inj.1 (w3 hw)
          · exact UInt8.toNat_inj.1 (w4 hw)
          · exact UInt8.toNat_inj.1 (w5 hw)
      · rw [if_pos ha, if_neg hb] at h; cases h
    · by_cases hb : i < b.size
      · rw [if_neg ha, if_pos hb] at h; cases h
      · exact ⟨by omega, fun k hk hk2 => by omega⟩
theorem get_eq (s : ByteArray) (k : Nat) (h : k < s.size) : s.get! k = s[k] := by
  have h1 := get_bt s k
  rw [bt_nat s k h] at h1
  exact UInt8.toNat_inj.1 (by omega)
/-- Right keys of the same runes are one. -/
theorem key_inj {a b : ByteArray} (ha : keyR a = true) (hb : keyR b = true) (h : cmpK a b = 0) : a = b := by
  unfold keyR at ha hb
  rw [Bool.and_eq_true] at ha hb
  have e := cmpL_eq _ _ h
  obtain ⟨q1, q2⟩ := runes_bytes a b a.size b.size 0 (by omega) (by omega) (by omega) (by omega) ha.1 hb.1 e
  apply ByteArray.ext_getElem q1
  intro k h1 h2
  rw [← get_eq, ← get_eq]
  exact q2 k (by omega) h1
end Go.Awp
set_option linter.unusedSimpArgs false
set_option linter.unusedVariables false
namespace Go.Awp
theorem allFrom_pair {α : Type} [Inhabited α] (P : α → Bool) (Q : α → α → Bool) (tr : ∀ a b c, Q a b = true → Q b c = true → Q a c = true) (l : List α) :
    allFrom (fun i => P (rd l (i : Int)) && (decide (i = 0) || Q (rd l ((i : Int) - 1)) (rd l (i : Int)))) l.length 0 = true ↔ (∀ x ∈ l, P x = true) ∧ l.Pairwise (fun a b => Q a b = true) := by
  rw [allFrom_iff]
  constructor
  · intro h
    have h1 : ∀ i (hi : i < l.length), P l[i] = true ∧ (∀ (h0 : 0 < i), Q (l[i - 1]'(by omega)) l[i] = true) := fun i hi => by
      have := h i (by omega) (by omega)
      rw [Bool.and_eq_true, Bool.or_eq_true, decide_eq_true_eq, rd_nat _ _ hi] at this
      refine ⟨this.1, fun h0 => ?_⟩
      rcases this.2 with h2 | h2
      · omega
      · rwa [show ((i : Int) - 1) = ((i - 1 : Nat) : Int) by omega, rd_nat _ _ (by omega)] at h2
    refine ⟨fun x hx => ?_, ?_⟩
    · obtain ⟨j, hj, rfl⟩ := List.mem_iff_getElem.1 hx
      exact (h1 j hj).1
    · rw [List.pairwise_iff_getElem]
      intro i j hi hj hij
      induction j with
      | zero => omega
      | succ j ih =>
        have h2 := (h1 (j + 1) hj).2 (by omega)
        simp only [Nat.add_sub_cancel] at h2
        by_cases e : i = j
        · subst e; exact h2
        · exact tr _ _ _ (ih (by omega) (by omega)) h2
  · rintro ⟨h1, h2⟩ i _ hi
    have hi' : i < l.length := by omega
    rw [Bool.and_eq_true, Bool.or_eq_true, decide_eq_true_eq, rd_nat _ _ hi']
    refine ⟨h1 _ (List.getElem_mem hi'), ?_⟩
    by_cases h0 : i = 0
    · exact .inl h0
    · right
      rw [show ((i : Int) - 1) = ((i - 1 : Nat) : Int) by omega, rd_nat _ _ (by omega)]
      rw [List.pairwise_iff_getElem] at h2
      exact h2 _ _ _ _ (by omega)
/-- How many stand ahead. -/
def aheadN {α : Type} (p : α → Bool) (l : List α) : Nat := (l.takeWhile p).length
theorem ahead_le {α : Type} (p : α → Bool) (l : List α) : aheadN p l ≤ l.length := by
  unfold aheadN
  induction l with
  | nil => simp
  | cons x l ih =>
    rw [List.takeWhile_cons]
    cases p x <;> simp <;> omega
theorem ahead_at {α : Type} (p : α → Bool) : ∀ (l : List α) (n : Nat), n ≤ l.length → (∀ i (hi : i < n) (h : i < l.length), p l[i] = true) → (∀ (h : n < l.length), p l[n] = false) → aheadN p l = n
  | [], n, hn, _, _ => by simp at hn; subst hn; rfl
  | x :: l, 0, _, _, h => by
    have : p x = false := h (by simp)
    simp [aheadN, List.takeWhile_cons, this]
  | x :: l, n + 1, hn, h1, h2 => by
    have : p x = true := h1 0 (by omega) (by simp)
    have ih := ahead_at p l n (by simpa using hn) (fun i hi h => h1 (i + 1) (by omega) (by simpa using h)) (fun h => h2 (by simpa using h))
    unfold aheadN at ih ⊢
    rw [List.takeWhile_cons, this]
    simp [ih]
theorem ahead_lt {α : Type} (p : α → Bool) : ∀ (l : List α) (i : Nat) (h : i < l.length), i < aheadN p l → p l[i] = true
  | x :: l, 0, h, hi => by
    unfold aheadN at hi
    rw [List.takeWhile_cons] at hi
    show p x = true
    cases hp : p x with
    | true => rfl
    | false => rw [hp] at hi; simp at hi
  | x :: l, i + 1, h, hi => by
    have h' : i < l.length := by simpa using h
    refine ahead_lt p l i h' ?_
    unfold aheadN at hi ⊢
    rw [List.takeWhile_cons] at hi
    cases hp : p x with
    | true => rw [hp] at hi; simpa using hi
    | false => rw [hp] at hi; simp at hi
theorem ahead_ge {α : Type} (p : α → Bool) : ∀ (l : List α) (h : aheadN p l < l.length), p l[aheadN p l] = false
  | x :: l, h => by
    cases hp : p x with
    | false =>
      have e : aheadN p (x :: l) = 0 := by simp [aheadN, List.takeWhile_cons, hp]
      simp only [e]; exact hp
    | true =>
      have e : aheadN p (x :: l) = aheadN p l + 1 := by simp [aheadN, List.takeWhile_cons, hp]
      simp only [e] at h ⊢
      exact ahead_ge p l (by simpa using h)
/-- Two lists in strict order that have the same members are one. -/
theorem sorted_ext {α : Type} (r : α → α → Prop) (irr : ∀ a, ¬ r a a) (tr : ∀ a b c, r a b → r b c → r a c) : ∀ (l m : List α), l.Pairwise r → m.Pairwise r → (∀ x, x ∈ l ↔ x ∈ m) → l = m
  | [], [], _, _, _ => rfl
  | [], y :: m, _, _, h => absurd ((h y).2 (by simp)) (by simp)
  | x :: l, [], _, _, h => absurd ((h x).1 (by simp)) (by simp)
  | x :: l, y :: m, hl, hm, h => by
    rw [List.pairwise_cons] at hl hm
    have e : x = y := by
      have h1 := (h x).1 (by simp)
      have h2 := (h y).2 (by simp)
      rw [List.mem_cons] at h1 h2
      rcases h1 with h1 | h1
      · exact h1
      · rcases h2 with h2 | h2
        · exact h2.symm
        · exact absurd (tr _ _ _ (hl.1 y h2) (hm.1 x h1)) (irr x)
    subst e
    congr 1
    refine sorted_ext r irr tr l m hl.2 hm.2 fun z => ⟨fun hz => ?_, fun hz => ?_⟩
    · have := (h z).1 (by simp [hz])
      rw [List.mem_cons] at this
      rcases this with h3 | h3
      · subst h3; exact absurd (hl.1 z hz) (irr z)
      · exact h3
    · have := (h z).2 (by simp [hz])
      rw [List.mem_cons] at this
      rcases this with h3 | h3
      · subst h3; exact absurd (hm.1 z hz) (irr z)
      · exact h3
/-- A loop that appends what it makes of each. -/
theorem fm_ev {α β : Type} {f : Nat → (List β × Int) → Option (List β)} {l : List α} (g : α → Option β) (hend : ∀ acc, Ev (fun k => f k (acc, (l.length : Int))) acc)
    (hstep : ∀ i (hi : i < l.length) acc r, acc.length ≤ i → Ev (fun k => f k (acc ++ (g l[i]).toList, ((i + 1 : Nat) : Int))) r → Ev (fun k => f k (acc, (i : Int))) r) : Ev (fun k => f k ([], 0)) (l.filterMap g) := by
  have : ∀ m i acc, i + m = l.length → acc.length ≤ i → Ev (fun k => f k (acc, (i : Int))) (acc ++ (l.drop i).filterMap g) := fun m => by
    induction m with
    | zero =>
      intro i acc hi _
      rw [List.drop_of_length_le (by omega), show i = l.length by omega]
      simpa using hend acc
    | succ m ih =>
      intro i acc hi ha
      have hlt : i < l.length := by omega
      refine hstep i hlt acc _ ha ?_
      have := ih (i + 1) (acc ++ (g l[i]).toList) (by omega) (by cases g l[i] <;> simp <;> omega)
      rw [List.append_assoc] at this
      rw [List.drop_eq_getElem_cons hlt, List.filterMap_cons]
      cases hg : g l[i] <;> rw [hg] at this <;> simpa using this
  simpa using this l.length 0 [] (by omega) (by simp)
theorem guardL {α : Type} (p : α → Bool) (x : α) : (Option.guard p x).toList = bif p x then [x] else [] := by
  unfold Option.guard
  cases h : p x <;> simp [h]
theorem filter_drop {α : Type} (p : α → Bool) : ∀ (l : List α) (n : Nat), (∀ i (h : i < l.length), i < n → p l[i] = false) → (∀ i (h : i < l.length), n ≤ i → p l[i] = true) → l.filter p = l.drop n
  | [], n, _, _ => by simp
  | x :: l, 0, _, h => by
    rw [List.drop_zero, List.filter_eq_self]
    intro y hy
    obtain ⟨j, hj, rfl⟩ := List.mem_iff_getElem.1 hy
    exact h j hj (by omega)
  | x :: l, n + 1, h1, h2 => by
    have : p x = false := h1 0 (by simp) (by omega)
    rw [List.filter_cons, this]
    simp only [Bool.false_eq_true, if_false, List.drop_succ_cons]
    exact filter_drop p l n (fun i h hi => h1 (i + 1) (by simpa using h) (by omega)) fun i h hi => h2 (i + 1) (by simpa using h) (by omega)
theorem filter_take {α : Type} (p : α → Bool) (l : List α) (n : Nat) (h1 : ∀ i (h : i < l.length), i < n → p l[i] = true) (h2 : ∀ i (h : i < l.length), n ≤ i → p l[i] = false) : l.filter p = l.take n := by
  induction l generalizing n with
  | nil => simp
  | cons x l ih =>
    cases n with
    | zero =>
      rw [List.take_zero, List.filter_eq_nil_iff]
      intro y hy
      obtain ⟨j, hj, rfl⟩ := List.mem_iff_getElem.1 hy
      rw [h2 j hj (by omega)]; simp
    | succ n =>
      have : p x = true := h1 0 (by simp) (by omega)
      rw [List.filter_cons, this]
      simp only [if_true, List.take_succ_cons]
      congr 1
      exact ih n (fun i h hi => h1 (i + 1) (by simpa using h) (by omega)) fun i h hi => h2 (i + 1) (by simpa using h) (by omega)
end Go.Awp
namespace Go.Proofs
open Go.Shelf
def Tryz.lays260_ren : Go.Shelf.Ren := ⟨fun | 260 => 174 | n => n, fun | 9 => 9 | 21 => 21 | 3 => 3 | 4 => 4 | 5 => 5 | 119 => 197 | 0 => 0 | 46 => 78 | 139 => 200 | 138 => 199 | n => n, fun | 3 => 0 | 4 => 1 | n => n⟩
theorem Tryz.lays260 : Go.Proofs.Lays.n260 Tryz.prog Tryz.lays260_ren := {
  mixed := by kernel_rfl
  f260 := Tryz.func174.trans (congrArg some (by kernel_rfl))
  t0 := Tryz.underlying0
  a0 := Tryz.isAgg0
  z0 := Tryz.sizeOf0
  v0 := Tryz.zeroValue0
  t3 := Tryz.underlying3
  a3 := Tryz.isAgg3
  z3 := Tryz.sizeOf3
  v3 := Tryz.zeroValue3
  t4 := Tryz.underlying4
  a4 := Tryz.isAgg4
  z4 := Tryz.sizeOf4
  v4 := Tryz.zeroValue4
  t5 := Tryz.underlying5
  a5 := Tryz.isAgg5
  z5 := Tryz.sizeOf5
  v5 := Tryz.zeroValue5
  t9 := Tryz.underlying9
  a9 := Tryz.isAgg9
  z9 := Tryz.sizeOf9
  v9 := Tryz.zeroValue9
  t21 := Tryz.underlying21
  a21 := Tryz.isAgg21
  z21 := Tryz.sizeOf21
  v21 := Tryz.zeroValue21
  t46 := Tryz.underlying78
  a46 := Tryz.isAgg78
  z46 := Tryz.sizeOf78
  v46 := Tryz.zeroValue78
  t119 := Tryz.underlying197
  a119 := Tryz.isAgg197
  z119 := Tryz.sizeOf197
  t138 := Tryz.underlying199
  a138 := Tryz.isAgg199
  z138 := Tryz.sizeOf199
  v138 := Tryz.zeroValue199
  t139 := Tryz.underlying200
  a139 := Tryz.isAgg200
  z139 := Tryz.sizeOf200
  v139 := Tryz.zeroValue200
  g3 := by kernel_rfl
  g4 := by kernel_rfl }
open Go.RowKit Go.Lib in
theorem Tryz.utf8_decodeRuneInStringSlow (s : ByteArray) (w : World) (hT : Lib.Utf8Tabs 0 1 w) :
    Calls Tryz.prog 174 #[.string s] w fun e w' => e = .returned (.tuple #[.int .i32 (Lib.decodeGo s).1, .int .i64 (Lib.decodeGo s).2]) ∧ Below w.heap.size w w' := Any.utf8_decodeRuneInStringSlow Tryz.lays260 s w hT
end Go.Proofs
set_option linter.unusedVariables false
set_option linter.unusedSimpArgs false
namespace Go.Proofs.Gd
open Go Go.RowKit Go.Lib Go.Proofs Go.Awp
theorem wpl_copy {P : Program} (w : World) {ops : Array Oper} {rest : List Oper} {o : Oper} {a : Act} {Q : Exit → Act → World → Prop} (hgd : o.guard = none) (d s : Operand) (t t' : TypeId)
    (ho : o.op = .call { callee := .builtin .copy, args := #[d, s], argTypes := #[t, t'] }) (v u : Value) (hd : a.eval d = v) (hs : a.eval s = u) {v' : Value} {w' : World}
    (hr : (Builtin.copy_ #[t, t'] o.type #[v, u]).run P w = .ok v' w') (h : wpList P ops Q rest (a.put o.dst v') w') : wpList P ops Q (o :: rest) a w :=
  wpList_plain hgd fun _ hK => by
    unfold Oper.wp execOp
    simp only [ho, resolve, invoke, builtin, Sem.run_bind, Sem.run_pure, Result.andThen_ok, List.map_toArray, List.map_cons, List.map_nil, hd, hs, hr]
    exact hK _ _ h
theorem stp_copy {P : Program} {ops : Array Oper} {o : Oper} {a : Act} {w : World} {K : Act → World → Prop} {Q : Exit → Act → World → Prop} {E : Prop}
    (hg : o.guard = none) (d x : Operand) (dT sT : TypeId) (hop : o.op = Op.call { callee := Callee.builtin Builtin.copy, args := #[d, x], argTypes := #[dT, sT] })
    (v u : Value) (hd : a.eval d = v) (hx : a.eval x = u) {v' : Value} {w' : World} (hr : (Builtin.copy_ #[dT, sT] o.type #[v, u]).run P w = .ok v' w') (hK : K (a.put o.dst v') w') :
    if Region.wanted o (yielded ops a.tmps) = true then Oper.wp P o a w K Q else E := by
  have hw : Region.wanted o (yielded ops a.tmps) = true := by simp [Region.wanted, hg]
  rw [if_pos hw]
  unfold Oper.wp
  simp [execOp, hop, resolve, invoke, builtin, hd, hx, hr, Result.andThen]
  exact hK
theorem wpl_append {P : Program} (w : World) {ops : Array Oper} {rest : List Oper} {o : Oper} {a : Act} {Q : Exit → Act → World → Prop} (hgd : o.guard = none) (d s : Operand) (t t' : TypeId)
    (ho : o.op = .call { callee := .builtin .append, args := #[d, s], argTypes := #[t, t'] }) (v u : Value) (hd : a.eval d = v) (hs : a.eval s = u) {v' : Value} {w' : World}
    (hr : (Builtin.append_ #[t, t'] o.type #[v, u]).run P w = .ok v' w') (h : wpList P ops Q rest (a.put o.dst v') w') : wpList P ops Q (o :: rest) a w :=
  wpList_plain hgd fun _ hK => by
    unfold Oper.wp execOp
    simp only [ho, resolve, invoke, builtin, Sem.run_bind, Sem.run_pure, Result.andThen_ok, List.map_toArray, List.map_cons, List.map_nil, hd, hs, hr]
    exact hK _ _ h
theorem stp_append {P : Program} {ops : Array Oper} {o : Oper} {a : Act} {w : World} {K : Act → World → Prop} {Q : Exit → Act → World → Prop} {E : Prop}
    (hg : o.guard = none) (d x : Operand) (dT sT : TypeId) (hop : o.op = Op.call { callee := Callee.builtin Builtin.append, args := #[d, x], argTypes := #[dT, sT] })
    (v u : Value) (hd : a.eval d = v) (hx : a.eval x = u) {v' : Value} {w' : World} (hr : (Builtin.append_ #[dT, sT] o.type #[v, u]).run P w = .ok v' w') (hK : K (a.put o.dst v') w') :
    if Region.wanted o (yielded ops a.tmps) = true then Oper.wp P o a w K Q else E := by
  have hw : Region.wanted o (yielded ops a.tmps) = true := by simp [Region.wanted, hg]
  rw [if_pos hw]
  unfold Oper.wp
  simp [execOp, hop, resolve, invoke, builtin, hd, hx, hr, Result.andThen]
  exact hK
theorem wpl_clear {P : Program} (w : World) {ops : Array Oper} {rest : List Oper} {o : Oper} {a : Act} {Q : Exit → Act → World → Prop} (hgd : o.guard = none) (d : Operand) (t : TypeId)
    (ho : o.op = .call { callee := .builtin .clear, args := #[d], argTypes := #[t] }) (v : Value) (hd : a.eval d = v) {v' : Value} {w' : World}
    (hr : (Builtin.clear_ #[t] o.type #[v]).run P w = .ok v' w') (h : wpList P ops Q rest (a.put o.dst v') w') : wpList P ops Q (o :: rest) a w :=
  wpList_plain hgd fun _ hK => by
    unfold Oper.wp execOp
    simp only [ho, resolve, invoke, builtin, Sem.run_bind, Sem.run_pure, Result.andThen_ok, List.map_toArray, List.map_cons, List.map_nil, hd, hr]
    exact hK _ _ h
theorem mixedI : Tryz.prog.follows .mixedOrders = true := by kernel_rfl
set_option maxHeartbeats 4000000 in
set_option maxRecDepth 100000 in
theorem insW143 : InsW Tryz.prog 143 167 22 45 17 where
  shift := by
    intro b n cap i vb vc w W1 W2 hi hroom hcap hov hcp1 hcp2
    have mixed := mixedI
    have hw1 : IntKind.i64.wrap ((i : Int) + 1) = (i : Int) + 1 := by rw [IntKind.wrap_i64]; omega
    have hw2 : IntKind.i64.wrap ((n : Int) + 1) = (n : Int) + 1 := by rw [IntKind.wrap_i64]; omega
    have hz2 : ¬ ((i : Int) = (n : Int)) := by omega
    have hb1 : (0 : Int) ≤ (i : Int) + 1 := by omega
    have htn : ((i : Int) + 1).toNat = i + 1 := by omega
    have htn2 : ((n : Int) + 1).toNat = n + 1 := by omega
    have hb2 : ¬ (cap = i + 1) := by omega
    have hb3 : (i : Int) ≤ (n : Int) + 1 := by omega
    have hb4 : ¬ (cap = i) := by omega
    have hin : i ≤ n := by omega
    have hc1 : ¬ ((n : Int) + 1 > (cap : Int)) := by omega
    go_enter Tryz.func143, Tryz.ntmps143
    go_wp2_with (simp only [hov])
    go_region_law_o (refine stp_copy rfl _ _ 22 22 rfl _ _ (by simp [Act.eval, Act.put]) (by simp [Act.eval, Act.put]) (hcp1 _ _ _) ?_)
    go_wp2_with (at_builtin; refine wpl_copy _ rfl _ _ 22 22 rfl _ _ rfl rfl (hcp2 _ _) ?_)
    go_ret
    exact ⟨rfl, rfl⟩
  atEnd := by
    intro base n cap vb vc w w1 v' hn hcap happ
    have mixed := mixedI
    go_enter Tryz.func143, Tryz.ntmps143
    go_wp2_with (at_builtin; refine wpl_append _ rfl _ _ 22 22 rfl _ _ rfl rfl (happ _) ?_)
    all_goals (go_ret; exact ⟨rfl, rfl⟩)
  grow := by
    intro b n cap i vb vc g cap2 w w1 w2 w3 hi hn hroom hcap hcap2 happ hcp1 hcp2
    have mixed := mixedI
    have hw1 : IntKind.i64.wrap ((i : Int) + 1) = (i : Int) + 1 := by rw [IntKind.wrap_i64]; omega
    have hw2 : IntKind.i64.wrap ((n : Int) + 1) = (n : Int) + 1 := by rw [IntKind.wrap_i64]; omega
    have hw3 : IntKind.i64.wrap ((n : Int) + 1 - (i : Int)) = (n : Int) + 1 - (i : Int) := by rw [IntKind.wrap_i64]; omega
    have hz2 : ¬ ((i : Int) = (n : Int)) := by omega
    have hb1 : (0 : Int) ≤ (i : Int) + 1 := by omega
    have htn : ((i : Int) + 1).toNat = i + 1 := by omega
    have hb2 : ¬ (cap = i) := by omega
    have hb3 : (i : Int) ≤ (n : Int) + 1 := by omega
    have hb5 : ¬ (cap2 = i) := by omega
    have hb6 : ¬ (cap2 = i + 1) := by omega
    have hin : i ≤ n := by omega
    have hic : i ≤ cap := by omega
    have hin1 : i ≤ n + 1 := by omega
    have hc1 : (n : Int) + 1 > (cap : Int) := by omega
    go_enter Tryz.func143, Tryz.ntmps143
    go_wp2_with (at_builtin; refine wpl_append _ rfl _ _ 22 3 rfl _ _ rfl rfl (happ _) ?_)
    go_wp2_with (at_builtin; refine wpl_copy _ rfl _ _ 22 22 rfl _ _ rfl rfl (hcp1 _ _) ?_)
    go_region_law_o (refine stp_copy rfl _ _ 22 22 rfl _ _ (by simp [Act.eval, Act.put]) (by simp [Act.eval, Act.put]) (hcp2 _ _ _) ?_)
    go_wp2
    go_ret
    exact ⟨rfl, rfl⟩
theorem insS143 : InsSpec Tryz.prog 143 45 17 184 :=
  insSpec insW143 Tryz.underlying22 (ElemT.mk' (z := (.agg #[.int .i64 0, .int .i64 0, .string ⟨#[]⟩, .string ⟨#[]⟩, .int .i64 0, .slice none 0 0, .int .i64 0, .int .i64 0, .int .i64 0, .int .i64 0, .int .i64 0, .int .i64 0, .slice none 0 0, .int .i64 0, .int .i64 0, .int .i64 0, .int .i64 0])) (by kernel_rfl) (by kernel_rfl) (by decide)) Tryz.underlying3 fun w a b la ca lb cb hne tA tB kA kB h1 h2 h3 h4 h5 => by
    rw [run_callFunc_extern Tryz.func167 (by kernel_rfl) (by kernel_rfl) (by kernel_rfl) (by kernel_rfl)]
    rw [Go.Lib.run_overlaps_apart w 22 4 45 Tryz.underlying22 17 Tryz.sizeOf45 a b la ca lb cb hne tA tB kA kB h1 h2 h3 h4 h5]
    rfl
set_option maxHeartbeats 4000000 in
set_option maxRecDepth 100000 in
theorem delW147 : DelW Tryz.prog 147 22 17 where
  del := by
    intro b n cap i v0 w w1 w2 hi hn hcap happ hclr
    have mixed := mixedI
    have hb1 : (0 : Int) ≤ (i : Int) + 1 := by omega
    have htn : ((i : Int) + 1).toNat = i + 1 := by omega
    have hz : ¬ ((i : Int) = (i : Int) + 1) := by omega
    have h1 : (i : Int) + 1 ≤ (n : Int) := by omega
    have h1' : (i : Int) + 1 ≤ (cap : Int) := by omega
    have h2 : i + 1 ≤ n := hi
    have h3 : i ≤ cap := by omega
    have h4 : i ≤ i + 1 := by omega
    have h5 : n - 1 ≤ n := by omega
    have h6 : ¬ (cap = n - 1) := by omega
    have h7 : n - (n - 1) = 1 := by omega
    have h8 : i ≤ n := by omega
    have hnn : ¬ (n = i) := by omega
    go_enter Tryz.func147, Tryz.ntmps147
    go_wp2
    by_cases hc : cap = i + 1
    · have hi1 : (i : Int) ≤ (i : Int) + 1 := by omega
      subst hc
      go_region_law_o (refine stp_append rfl _ _ 22 22 rfl _ _ (by simp [Act.eval, Act.put]) (by simp [Act.eval, Act.put] <;> omega) (happ _ ⟨b, 0, none⟩ 0 (.inl rfl)) ?_)
      go_wp2_with (at_builtin; refine wpl_clear _ rfl _ 22 rfl _ rfl (hclr _ _) ?_)
      go_ret
      exact ⟨rfl, rfl⟩
    · go_region_law_o (refine stp_append rfl _ _ 22 22 rfl _ _ (by simp [Act.eval, Act.put]) (by simp [Act.eval, Act.put]) (happ _ ⟨b, (i + 1) * 17, none⟩ (cap - (i + 1)) (.inr rfl)) ?_)
      go_wp2_with (at_builtin; refine wpl_clear _ rfl _ 22 rfl _ rfl (hclr _ _) ?_)
      go_ret
      exact ⟨rfl, rfl⟩
theorem delS147 : DelSpec Tryz.prog 147 45 17 :=
  delSpec (z := (.agg #[.int .i64 0, .int .i64 0, .string ⟨#[]⟩, .string ⟨#[]⟩, .int .i64 0, .slice none 0 0, .int .i64 0, .int .i64 0, .int .i64 0, .int .i64 0, .int .i64 0, .int .i64 0, .slice none 0 0, .int .i64 0, .int .i64 0, .int .i64 0, .int .i64 0])) delW147 Tryz.underlying22 (ElemT.mk' (z := (.agg #[.int .i64 0, .int .i64 0, .string ⟨#[]⟩, .string ⟨#[]⟩, .int .i64 0, .slice none 0 0, .int .i64 0, .int .i64 0, .int .i64 0, .int .i64 0, .int .i64 0, .int .i64 0, .slice none 0 0, .int .i64 0, .int .i64 0, .int .i64 0, .int .i64 0])) (bytes := 184) (by kernel_rfl) (by kernel_rfl) (by decide)) Tryz.zeroValue45 (by kernel_rfl) (by intro u hu; revert hu u; decide)
set_option maxHeartbeats 4000000 in
set_option maxRecDepth 100000 in
theorem insW159 : InsW Tryz.prog 159 177 42 116 2 where
  shift := by
    intro b n cap i vb vc w W1 W2 hi hroom hcap hov hcp1 hcp2
    have mixed := mixedI
    have hw1 : IntKind.i64.wrap ((i : Int) + 1) = (i : Int) + 1 := by rw [IntKind.wrap_i64]; omega
    have hw2 : IntKind.i64.wrap ((n : Int) + 1) = (n : Int) + 1 := by rw [IntKind.wrap_i64]; omega
    have hz2 : ¬ ((i : Int) = (n : Int)) := by omega
    have hb1 : (0 : Int) ≤ (i : Int) + 1 := by omega
    have htn : ((i : Int) + 1).toNat = i + 1 := by omega
    have htn2 : ((n : Int) + 1).toNat = n + 1 := by omega
    have hb2 : ¬ (cap = i + 1) := by omega
    have hb3 : (i : Int) ≤ (n : Int) + 1 := by omega
    have hb4 : ¬ (cap = i) := by omega
    have hin : i ≤ n := by omega
    have hc1 : ¬ ((n : Int) + 1 > (cap : Int)) := by omega
    go_enter Tryz.func159, Tryz.ntmps159
    go_wp2_with (simp only [hov])
    go_region_law_o (refine stp_copy rfl _ _ 42 42 rfl _ _ (by simp [Act.eval, Act.put]) (by simp [Act.eval, Act.put]) (hcp1 _ _ _) ?_)
    go_wp2_with (at_builtin; refine wpl_copy _ rfl _ _ 42 42 rfl _ _ rfl rfl (hcp2 _ _) ?_)
    go_ret
    exact ⟨rfl, rfl⟩
  atEnd := by
    intro base n cap vb vc w w1 v' hn hcap happ
    have mixed := mixedI
    go_enter Tryz.func159, Tryz.ntmps159
    go_wp2_with (at_builtin; refine wpl_append _ rfl _ _ 42 42 rfl _ _ rfl rfl (happ _) ?_)
    all_goals (go_ret; exact ⟨rfl, rfl⟩)
  grow := by
    intro b n cap i vb vc g cap2 w w1 w2 w3 hi hn hroom hcap hcap2 happ hcp1 hcp2
    have mixed := mixedI
    have hw1 : IntKind.i64.wrap ((i : Int) + 1) = (i : Int) + 1 := by rw [IntKind.wrap_i64]; omega
    have hw2 : IntKind.i64.wrap ((n : Int) + 1) = (n : Int) + 1 := by rw [IntKind.wrap_i64]; omega
    have hw3 : IntKind.i64.wrap ((n : Int) + 1 - (i : Int)) = (n : Int) + 1 - (i : Int) := by rw [IntKind.wrap_i64]; omega
    have hz2 : ¬ ((i : Int) = (n : Int)) := by omega
    have hb1 : (0 : Int) ≤ (i : Int) + 1 := by omega
    have htn : ((i : Int) + 1).toNat = i + 1 := by omega
    have hb2 : ¬ (cap = i) := by omega
    have hb3 : (i : Int) ≤ (n : Int) + 1 := by omega
    have hb5 : ¬ (cap2 = i) := by omega
    have hb6 : ¬ (cap2 = i + 1) := by omega
    have hin : i ≤ n := by omega
    have hic : i ≤ cap := by omega
    have hin1 : i ≤ n + 1 := by omega
    have hc1 : (n : Int) + 1 > (cap : Int) := by omega
    go_enter Tryz.func159, Tryz.ntmps159
    go_wp2_with (at_builtin; refine wpl_append _ rfl _ _ 42 3 rfl _ _ rfl rfl (happ _) ?_)
    go_wp2_with (at_builtin; refine wpl_copy _ rfl _ _ 42 42 rfl _ _ rfl rfl (hcp1 _ _) ?_)
    go_region_law_o (refine stp_copy rfl _ _ 42 42 rfl _ _ (by simp [Act.eval, Act.put]) (by simp [Act.eval, Act.put]) (hcp2 _ _ _) ?_)
    go_wp2
    go_ret
    exact ⟨rfl, rfl⟩
theorem insS159 : InsSpec Tryz.prog 159 116 2 40 :=
  insSpec insW159 Tryz.underlying42 (ElemT.mk' (z := (.agg #[.string ⟨#[]⟩, .slice none 0 0])) (by kernel_rfl) (by kernel_rfl) (by decide)) Tryz.underlying3 fun w a b la ca lb cb hne tA tB kA kB h1 h2 h3 h4 h5 => by
    rw [run_callFunc_extern Tryz.func177 (by kernel_rfl) (by kernel_rfl) (by kernel_rfl) (by kernel_rfl)]
    rw [Go.Lib.run_overlaps_apart w 42 4 116 Tryz.underlying42 2 Tryz.sizeOf116 a b la ca lb cb hne tA tB kA kB h1 h2 h3 h4 h5]
    rfl
set_option maxHeartbeats 4000000 in
set_option maxRecDepth 100000 in
theorem insW161 : InsW Tryz.prog 161 179 43 100 11 where
  shift := by
    intro b n cap i vb vc w W1 W2 hi hroom hcap hov hcp1 hcp2
    have mixed := mixedI
    have hw1 : IntKind.i64.wrap ((i : Int) + 1) = (i : Int) + 1 := by rw [IntKind.wrap_i64]; omega
    have hw2 : IntKind.i64.wrap ((n : Int) + 1) = (n : Int) + 1 := by rw [IntKind.wrap_i64]; omega
    have hz2 : ¬ ((i : Int) = (n : Int)) := by omega
    have hb1 : (0 : Int) ≤ (i : Int) + 1 := by omega
    have htn : ((i : Int) + 1).toNat = i + 1 := by omega
    have htn2 : ((n : Int) + 1).toNat = n + 1 := by omega
    have hb2 : ¬ (cap = i + 1) := by omega
    have hb3 : (i : Int) ≤ (n : Int) + 1 := by omega
    have hb4 : ¬ (cap = i) := by omega
    have hin : i ≤ n := by omega
    have hc1 : ¬ ((n : Int) + 1 > (cap : Int)) := by omega
    go_enter Tryz.func161, Tryz.ntmps161
    go_wp2_with (simp only [hov])
    go_region_law_o (refine stp_copy rfl _ _ 43 43 rfl _ _ (by simp [Act.eval, Act.put]) (by simp [Act.eval, Act.put]) (hcp1 _ _ _) ?_)
    go_wp2_with (at_builtin; refine wpl_copy _ rfl _ _ 43 43 rfl _ _ rfl rfl (hcp2 _ _) ?_)
    go_ret
    exact ⟨rfl, rfl⟩
  atEnd := by
    intro base n cap vb vc w w1 v' hn hcap happ
    have mixed := mixedI
    go_enter Tryz.func161, Tryz.ntmps161
    go_wp2_with (at_builtin; refine wpl_append _ rfl _ _ 43 43 rfl _ _ rfl rfl (happ _) ?_)
    all_goals (go_ret; exact ⟨rfl, rfl⟩)
  grow := by
    intro b n cap i vb vc g cap2 w w1 w2 w3 hi hn hroom hcap hcap2 happ hcp1 hcp2
    have mixed := mixedI
    have hw1 : IntKind.i64.wrap ((i : Int) + 1) = (i : Int) + 1 := by rw [IntKind.wrap_i64]; omega
    have hw2 : IntKind.i64.wrap ((n : Int) + 1) = (n : Int) + 1 := by rw [IntKind.wrap_i64]; omega
    have hw3 : IntKind.i64.wrap ((n : Int) + 1 - (i : Int)) = (n : Int) + 1 - (i : Int) := by rw [IntKind.wrap_i64]; omega
    have hz2 : ¬ ((i : Int) = (n : Int)) := by omega
    have hb1 : (0 : Int) ≤ (i : Int) + 1 := by omega
    have htn : ((i : Int) + 1).toNat = i + 1 := by omega
    have hb2 : ¬ (cap = i) := by omega
    have hb3 : (i : Int) ≤ (n : Int) + 1 := by omega
    have hb5 : ¬ (cap2 = i) := by omega
    have hb6 : ¬ (cap2 = i + 1) := by omega
    have hin : i ≤ n := by omega
    have hic : i ≤ cap := by omega
    have hin1 : i ≤ n + 1 := by omega
    have hc1 : (n : Int) + 1 > (cap : Int) := by omega
    go_enter Tryz.func161, Tryz.ntmps161
    go_wp2_with (at_builtin; refine wpl_append _ rfl _ _ 43 3 rfl _ _ rfl rfl (happ _) ?_)
    go_wp2_with (at_builtin; refine wpl_copy _ rfl _ _ 43 43 rfl _ _ rfl rfl (hcp1 _ _) ?_)
    go_region_law_o (refine stp_copy rfl _ _ 43 43 rfl _ _ (by simp [Act.eval, Act.put]) (by simp [Act.eval, Act.put]) (hcp2 _ _ _) ?_)
    go_wp2
    go_ret
    exact ⟨rfl, rfl⟩
theorem insS161 : InsSpec Tryz.prog 161 100 11 120 :=
  insSpec insW161 Tryz.underlying43 (ElemT.mk' (z := (.agg #[.int .i64 0, .int .i64 0, .int .i64 0, .int .i64 0, .int .i64 0, .int .i64 0, .bool false, .string ⟨#[]⟩, .slice none 0 0, .string ⟨#[]⟩, .bool false])) (by kernel_rfl) (by kernel_rfl) (by decide)) Tryz.underlying3 fun w a b la ca lb cb hne tA tB kA kB h1 h2 h3 h4 h5 => by
    rw [run_callFunc_extern Tryz.func179 (by kernel_rfl) (by kernel_rfl) (by kernel_rfl) (by kernel_rfl)]
    rw [Go.Lib.run_overlaps_apart w 43 4 100 Tryz.underlying43 11 Tryz.sizeOf100 a b la ca lb cb hne tA tB kA kB h1 h2 h3 h4 h5]
    rfl
end Go.Proofs.Gd
set_option linter.unusedVariables false
namespace Go.Proofs.Gd
open Go Go.Awp Go.Proofs
abbrev amb : Amb := utfAmb 0 1
def F174 (k : Nat) (s : ByteArray) : Option (Int × Int) := some (decR s, decN s)
theorem s174 (k : Nat) (s : ByteArray) (r : Int × Int) (h : F174 k s = some r) : Awp.Spec Tryz.prog amb 174 [.s (.string s)] (.ds [.s (.int .i32 r.1), .s (.int .i64 r.2)]) := by
  cases h
  exact spec_utf Tryz.utf8_decodeRuneInStringSlow s
end Go.Proofs.Gd
set_option linter.unusedVariables false
namespace Go.Proofs.Gd
open Go Go.Awp
structure Span where
  mLo : ByteArray
  mHi : ByteArray
instance : Inhabited Span := ⟨(⟨⟨#[]⟩, ⟨#[]⟩⟩ : Span)⟩
def eSpan (x : Span) : List D := [.s (.string x.mLo), .s (.string x.mHi)]
def vSpan (x : Span) : List Value := [.string x.mLo, .string x.mHi]
def qSpan (a b : Span) : Bool := strEq a.mLo b.mLo && (strEq a.mHi b.mHi && (true))
structure Stamp where
  mWall : Int
  mTick : Int
  mNode : Int
instance : Inhabited Stamp := ⟨(⟨0, 0, 0⟩ : Stamp)⟩
def eStamp (x : Stamp) : List D := [.s (.int .i64 x.mWall), .s (.int .i64 x.mTick), .s (.int .i64 x.mNode)]
def vStamp (x : Stamp) : List Value := [.int .i64 x.mWall, .int .i64 x.mTick, .int .i64 x.mNode]
def qStamp (a b : Stamp) : Bool := eqI a.mWall b.mWall && (eqI a.mTick b.mTick && (eqI a.mNode b.mNode && (true)))
structure Version where
  mAt : Stamp
  mGone : Bool
  mValue : ByteArray
instance : Inhabited Version := ⟨(⟨(⟨0, 0, 0⟩ : Stamp), false, ⟨#[]⟩⟩ : Version)⟩
def eVersion (x : Version) : List D := [.s (.int .i64 x.mAt.mWall), .s (.int .i64 x.mAt.mTick), .s (.int .i64 x.mAt.mNode), .s (.bool x.mGone), .s (.string x.mValue)]
theorem teVersion : EncT eVersion 5 := encT_of (fun _ => rfl) (fun _ => rfl)
def vVersion (x : Version) : List Value := [.int .i64 x.mAt.mWall, .int .i64 x.mAt.mTick, .int .i64 x.mAt.mNode, .bool x.mGone, .string x.mValue]
def qVersion (a b : Version) : Bool := qStamp a.mAt b.mAt && ((a.mGone == b.mGone) && (strEq a.mValue b.mValue && (true)))
structure Entry where
  mKey : ByteArray
  mChain : List Version
instance : Inhabited Entry := ⟨(⟨⟨#[]⟩, []⟩ : Entry)⟩
def eEntry (x : Entry) : List D := [.s (.string x.mKey), .sl 5 (x.mChain.map eVersion)]
theorem teEntry : EncT eEntry 2 := encT_of (fun _ => rfl) (fun _ => rfl)
structure Item where
  mKey : ByteArray
  mValue : ByteArray
instance : Inhabited Item := ⟨(⟨⟨#[]⟩, ⟨#[]⟩⟩ : Item)⟩
def eItem (x : Item) : List D := [.s (.string x.mKey), .s (.string x.mValue)]
theorem teItem : EncT eItem 2 := encT_of (fun _ => rfl) (fun _ => rfl)
def vItem (x : Item) : List Value := [.string x.mKey, .string x.mValue]
def qItem (a b : Item) : Bool := strEq a.mKey b.mKey && (strEq a.mValue b.mValue && (true))
structure Answer where
  mErr : Int
  mAt : Stamp
  mFound : Bool
  mValue : ByteArray
  mItems : List Item
  mNext : ByteArray
  mMore : Bool
instance : Inhabited Answer := ⟨(⟨0, (⟨0, 0, 0⟩ : Stamp), false, ⟨#[]⟩, [], ⟨#[]⟩, false⟩ : Answer)⟩
def eAnswer (x : Answer) : List D := [.s (.int .i64 x.mErr), .s (.int .i64 x.mAt.mWall), .s (.int .i64 x.mAt.mTick), .s (.int .i64 x.mAt.mNode), .s (.bool x.mFound), .s (.string x.mValue), .sl 2 (x.mItems.map eItem), .s (.string x.mNext), .s (.bool x.mMore)]
structure Done where
  mClient : Int
  mReq : Int
  mAnswer : Answer
instance : Inhabited Done := ⟨(⟨0, 0, (⟨0, (⟨0, 0, 0⟩ : Stamp), false, ⟨#[]⟩, [], ⟨#[]⟩, false⟩ : Answer)⟩ : Done)⟩
def eDone (x : Done) : List D := [.s (.int .i64 x.mClient), .s (.int .i64 x.mReq), .s (.int .i64 x.mAnswer.mErr), .s (.int .i64 x.mAnswer.mAt.mWall), .s (.int .i64 x.mAnswer.mAt.mTick), .s (.int .i64 x.mAnswer.mAt.mNode), .s (.bool x.mAnswer.mFound), .s (.string x.mAnswer.mValue), .sl 2 (x.mAnswer.mItems.map eItem), .s (.string x.mAnswer.mNext), .s (.bool x.mAnswer.mMore)]
theorem teDone : EncT eDone 11 := encT_of (fun _ => rfl) (fun _ => rfl)
structure Shard where
  mID : Int
  mEpoch : Int
  mSpan : Span
  mPhase : Int
  mEntries : List Entry
  mMark : Stamp
  mTop : Stamp
  mDone : List Done
  mHold : Int
  mSeen : Int
  mMove : Int
  mClosed : Int
instance : Inhabited Shard := ⟨(⟨0, 0, (⟨⟨#[]⟩, ⟨#[]⟩⟩ : Span), 0, [], (⟨0, 0, 0⟩ : Stamp), (⟨0, 0, 0⟩ : Stamp), [], 0, 0, 0, 0⟩ : Shard)⟩
def eShard (x : Shard) : List D := [.s (.int .i64 x.mID), .s (.int .i64 x.mEpoch), .s (.string x.mSpan.mLo), .s (.string x.mSpan.mHi), .s (.int .i64 x.mPhase), .sl 2 (x.mEntries.map eEntry), .s (.int .i64 x.mMark.mWall), .s (.int .i64 x.mMark.mTick), .s (.int .i64 x.mMark.mNode), .s (.int .i64 x.mTop.mWall), .s (.int .i64 x.mTop.mTick), .s (.int .i64 x.mTop.mNode), .sl 11 (x.mDone.map eDone), .s (.int .i64 x.mHold), .s (.int .i64 x.mSeen), .s (.int .i64 x.mMove), .s (.int .i64 x.mClosed)]
theorem teShard : EncT eShard 17 := encT_of (fun _ => rfl) (fun _ => rfl)
structure Cell where
  mShards : List Shard
  mTop : Stamp
  mDropped : Int
instance : Inhabited Cell := ⟨(⟨[], (⟨0, 0, 0⟩ : Stamp), 0⟩ : Cell)⟩
def eCell (x : Cell) : List D := [.sl 17 (x.mShards.map eShard), .s (.int .i64 x.mTop.mWall), .s (.int .i64 x.mTop.mTick), .s (.int .i64 x.mTop.mNode), .s (.int .i64 x.mDropped)]
structure Request where
  mClient : Int
  mReq : Int
  mKind : Int
  mKey : ByteArray
  mValue : ByteArray
  mHad : Bool
  mOld : ByteArray
  mAt : Stamp
  mHi : ByteArray
  mLimit : Int
instance : Inhabited Request := ⟨(⟨0, 0, 0, ⟨#[]⟩, ⟨#[]⟩, false, ⟨#[]⟩, (⟨0, 0, 0⟩ : Stamp), ⟨#[]⟩, 0⟩ : Request)⟩
def eRequest (x : Request) : List D := [.s (.int .i64 x.mClient), .s (.int .i64 x.mReq), .s (.int .i64 x.mKind), .s (.string x.mKey), .s (.string x.mValue), .s (.bool x.mHad), .s (.string x.mOld), .s (.int .i64 x.mAt.mWall), .s (.int .i64 x.mAt.mTick), .s (.int .i64 x.mAt.mNode), .s (.string x.mHi), .s (.int .i64 x.mLimit)]
def F91_l1 (t0 : List Entry) : Nat → Int → Option (LR Bool Unit)
  | 0, _ => none
  | k + 1, t3 =>
    bif (ltI t3 (t0.length : Int)) then (bif inR t3 t0.length then (bif (!(!(ltI 80 ((rd t0 t3).mChain.length : Int))) || inR t3 t0.length) then (bif ((ltI 80 ((rd t0 t3).mChain.length : Int)) || (ltI 100 ((rd t0 t3).mKey.size : Int))) then (some (.ret false)) else (F91_l1 t0 k (IntKind.wrap .i64 (t3 + 1)))) else none) else none) else (some (.out ()))
def F91 (k : Nat) (t0 : List Entry) : Option Bool :=
  bif (ltI 80 (t0.length : Int)) then (some false) else ((F91_l1 t0 k 0).bind fun t => t.go fun _ => some true)
def F92_l1 (t0 : List Done) : Nat → Int → Option (LR Bool Unit)
  | 0, _ => none
  | k + 1, t3 =>
    bif (ltI t3 (t0.length : Int)) then (bif inR t3 t0.length then (bif (ltI 100 ((rd t0 t3).mAnswer.mItems.length : Int)) then (some (.ret false)) else (F92_l1 t0 k (IntKind.wrap .i64 (t3 + 1)))) else none) else (some (.out ()))
def F92 (k : Nat) (t0 : List Done) : Option Bool :=
  bif (ltI 40 (t0.length : Int)) then (some false) else ((F92_l1 t0 k 0).bind fun t => t.go fun _ => some true)
def F27 (k : Nat) (t0 : Shard) : Option Bool :=
  (F91 k t0.mEntries).bind fun t5 => (bif t5 then F92 k t0.mDone else some default).bind fun t9 => some (((t5 && t9) && (ltI (t0.mSpan.mLo.size : Int) 100)) && (ltI (t0.mSpan.mHi.size : Int) 100))
def F14_l1 (t0 : Cell) : Nat → Int → Option (LR Bool Unit)
  | 0, _ => none
  | k + 1, t3 =>
    bif (ltI t3 (t0.mShards.length : Int)) then (bif inR t3 t0.mShards.length then ((F27 k (rd t0.mShards t3)).bind fun t20 => bif (!t20) then (some (.ret false)) else (F14_l1 t0 k (IntKind.wrap .i64 (t3 + 1)))) else none) else (some (.out ()))
def F14 (k : Nat) (t0 : Cell) : Option Bool :=
  bif (ltI 12 (t0.mShards.length : Int)) then (some false) else ((F14_l1 t0 k 0).bind fun t => t.go fun _ => some true)
def F56 (k : Nat) (t0 : Int) : Option Stamp :=
  some (⟨t0, 0, 0⟩ : Stamp)
def F121 (k : Nat) (t0 : Int) (t1 : Int) : Option Bool :=
  some ((ltI t0 t1) || (ltI 1099511627776 t0))
def F152_121_l1 (t0 : List Int) (t1u0 : Int) : Nat → Int → Option (LR Int Unit)
  | 0, _ => none
  | k + 1, t8 =>
    bif (ltI t8 (t0.length : Int)) then (bif inR t8 t0.length then ((F121 k (rd t0 t8) t1u0).bind fun t16 => bif t16 then (some (.ret t8)) else (F152_121_l1 t0 t1u0 k (IntKind.wrap .i64 (t8 + 1)))) else none) else (some (.out ()))
def F152_121 (k : Nat) (t0 : List Int) (t1u0 : Int) : Option Int :=
  (F152_121_l1 t0 t1u0 k 0).bind fun t => t.go fun _ => some (-1)
def F120_121 (k : Nat) (t0 : List Int) (t1u0 : Int) : Option Bool :=
  (F152_121 k t0 t1u0).bind fun t7 => some (leI 0 t7)
def F57 (k : Nat) (t0 : Int) (t1 : List Int) : Option Bool :=
  (F120_121 k t1 t0).bind fun t7 => some (!t7)
def F153 (k : Nat) (t0 : ByteArray) : Option (Int × Int) :=
  bif (!(!strEq t0 (⟨#[]⟩ : ByteArray)) || inR 0 t0.size) then (bif ((!strEq t0 (⟨#[]⟩ : ByteArray)) && (ltI (bt t0 0) 128)) then (bif inR 0 t0.size then (some ((IntKind.wrap .i32 (bt t0 0)), 1)) else none) else ((F174 k t0).bind fun (t16a, t16b) => some (t16a, t16b))) else none
def F154 (k : Nat) (t0 : Int) (t1 : Int) : Option Bool :=
  some (((leI 33 t0) && ((ltI t0 127) || (ltI 159 t0))) && ((!eqI t0 65533) || (eqI t1 3)))
def F122_l1 (t0 : ByteArray) : Nat → Nat → Option (LR Bool Unit)
  | 0, _ => none
  | k + 1, t8p =>
    bif (nxc t0 t8p) then (bif cutOK ((t8p : Nat) : Int) (t0.size : Int) t0.size then ((F153 k (t0.extract ((t8p : Nat) : Int).toNat (t0.size : Int).toNat)).bind fun (t17a, t17b) => (F154 k (nxr t0 t8p) t17b).bind fun t22 => bif (!t22) then (some (.ret false)) else (F122_l1 t0 k (nxw t0 t8p))) else none) else (some (.out ()))
def F122 (k : Nat) (t0 : ByteArray) : Option Bool :=
  (F122_l1 t0 k 0).bind fun t => t.go fun _ => some ((leI 1 (t0.size : Int)) && (leI (t0.size : Int) 16))
def F124_l1 : Nat → (ByteArray × ByteArray) → Option (LR Int (ByteArray × ByteArray))
  | 0, _ => none
  | k + 1, (t0_2, t1_2) =>
    bif ((!strEq t0_2 (⟨#[]⟩ : ByteArray)) && (!strEq t1_2 (⟨#[]⟩ : ByteArray))) then ((F153 k t0_2).bind fun (t17a, t17b) => (F153 k t1_2).bind fun (t22a, t22b) => bif (ltI t17a t22a) then (some (.ret (-1))) else (bif (ltI t22a t17a) then (some (.ret 1)) else (bif cutOK t17b (t0_2.size : Int) t0_2.size then (bif cutOK t22b (t1_2.size : Int) t1_2.size then (F124_l1 k ((t0_2.extract t17b.toNat (t0_2.size : Int).toNat), (t1_2.extract t22b.toNat (t1_2.size : Int).toNat))) else none) else none))) else (some (.out (t0_2, t1_2)))
def F124 (k : Nat) (t0 : ByteArray) (t1 : ByteArray) : Option Int :=
  (F124_l1 k (t0, t1)).bind fun t => t.go fun (t0_1, t1_1) => bif (!strEq t0_1 (⟨#[]⟩ : ByteArray)) then (some 1) else (bif (!strEq t1_1 (⟨#[]⟩ : ByteArray)) then (some (-1)) else (some 0))
def F80 (k : Nat) (t0 : Span) : Option Bool :=
  (bif (!strEq t0.mLo (⟨#[]⟩ : ByteArray)) then F122 k t0.mLo else some default).bind fun t9 => bif ((!strEq t0.mLo (⟨#[]⟩ : ByteArray)) && (!t9)) then (some false) else ((bif (!(strEq t0.mHi (⟨#[]⟩ : ByteArray))) then F122 k t0.mHi else some default).bind fun t18 => (bif ((!(strEq t0.mHi (⟨#[]⟩ : ByteArray))) && t18) then F124 k t0.mLo t0.mHi else some default).bind fun t24 => some ((strEq t0.mHi (⟨#[]⟩ : ByteArray)) || (t18 && (ltI t24 0))))
def F100 (k : Nat) (t0 : Int) (t1 : Int) : Option Bool :=
  some ((leI 0 t0) && (leI t0 t1))
def F36 (k : Nat) (t0 : Stamp) : Option Bool :=
  (F100 k t0.mWall 1099511627776).bind fun t5 => (bif t5 then F100 k t0.mTick 1048576 else some default).bind fun t9 => (bif (t5 && t9) then F100 k t0.mNode 255 else some default).bind fun t14 => some ((t5 && t9) && t14)
def F166 (k : Nat) (t0 : Version) : Option Bool :=
  (F36 k t0.mAt).bind fun t5 => some ((t5 && (leI (t0.mValue.size : Int) 16)) && ((!t0.mGone) || (strEq t0.mValue (⟨#[]⟩ : ByteArray))))
def F146 (k : Nat) (t0 : Int) : Option Bool :=
  some (!eqI t0 t0)
def F104 (k : Nat) (t0 : Int) (t1 : Int) : Option Int :=
  (F146 k t0).bind fun t8 => (F146 k t1).bind fun t10 => bif t8 then (bif t10 then (some 0) else (some (-1))) else (bif t10 then (some 1) else (bif (ltI t0 t1) then (some (-1)) else (bif (ltI t1 t0) then (some 1) else (some 0))))
def F103_l1 (t0 : List Int) : Nat → Int → Option (LR Int Unit)
  | 0, _ => none
  | k + 1, t8 =>
    bif (ltI t8 (t0.length : Int)) then (bif inR t8 t0.length then (bif (!eqI (rd t0 t8) 0) then (some (.ret (rd t0 t8))) else (F103_l1 t0 k (IntKind.wrap .i64 (t8 + 1)))) else none) else (some (.out ()))
def F103 (k : Nat) (t0 : List Int) : Option Int :=
  (F103_l1 t0 k 0).bind fun t => t.go fun _ => some 0
def F42 (k : Nat) (t0 : Stamp) (t1 : Stamp) : Option Int :=
  (F104 k t0.mWall t1.mWall).bind fun t9 => (F104 k t0.mTick t1.mTick).bind fun t14 => (F104 k t0.mNode t1.mNode).bind fun t19 => (F103 k ([t9, t14, t19])).bind fun t21 => some t21
def F136_l1 (t0 : List Version) : Nat → Int → Option (LR Bool Unit)
  | 0, _ => none
  | k + 1, t7 =>
    bif (ltI t7 (t0.length : Int)) then (bif inR t7 t0.length then ((F166 k (rd t0 t7)).bind fun t13 => bif (!((!(!t13)) && (ltI 0 t7)) || inR (IntKind.wrap .i64 (t7 - 1)) t0.length) then ((bif ((!(!t13)) && (ltI 0 t7)) then F42 k (rd t0 (IntKind.wrap .i64 (t7 - 1))).mAt (rd t0 t7).mAt else some default).bind fun t27 => bif ((!t13) || ((ltI 0 t7) && (leI 0 t27))) then (some (.ret false)) else (F136_l1 t0 k (IntKind.wrap .i64 (t7 + 1)))) else none) else none) else (some (.out ()))
def F136 (k : Nat) (t0 : List Version) : Option Bool :=
  (F136_l1 t0 k 0).bind fun t => t.go fun _ => some (leI (t0.length : Int) 64)
def F81_l1 (t0 : List Entry) : Nat → Int → Option (LR Bool Unit)
  | 0, _ => none
  | k + 1, t7 =>
    bif (ltI t7 (t0.length : Int)) then (bif inR t7 t0.length then ((F122 k (rd t0 t7).mKey).bind fun t14 => (bif (!(!t14)) then F136 k (rd t0 t7).mChain else some default).bind fun t19 => bif (!((!(((!t14) || (!t19)) || (eqI ((rd t0 t7).mChain.length : Int) 0))) && (ltI 0 t7)) || inR (IntKind.wrap .i64 (t7 - 1)) t0.length) then ((bif ((!(((!t14) || (!t19)) || (eqI ((rd t0 t7).mChain.length : Int) 0))) && (ltI 0 t7)) then F124 k (rd t0 (IntKind.wrap .i64 (t7 - 1))).mKey (rd t0 t7).mKey else some default).bind fun t40 => bif ((((!t14) || (!t19)) || (eqI ((rd t0 t7).mChain.length : Int) 0)) || ((ltI 0 t7) && (leI 0 t40))) then (some (.ret false)) else (F81_l1 t0 k (IntKind.wrap .i64 (t7 + 1)))) else none) else none) else (some (.out ()))
def F81 (k : Nat) (t0 : List Entry) : Option Bool :=
  (F81_l1 t0 k 0).bind fun t => t.go fun _ => some (leI (t0.length : Int) 64)
def F137 (k : Nat) (t0 : Int) : Option Bool :=
  some ((leI 1 t0) && (leI t0 1099511627776))
def F138 (k : Nat) (t0 : Answer) : Option Bool :=
  (bif ((leI 0 t0.mErr) && (leI t0.mErr 16)) then F36 k t0.mAt else some default).bind fun t14 => some (((((((leI 0 t0.mErr) && (leI t0.mErr 16)) && t14) && (leI (t0.mValue.size : Int) 16)) && (eqI (t0.mItems.length : Int) 0)) && (strEq t0.mNext (⟨#[]⟩ : ByteArray))) && (!t0.mMore))
def F82_l1 (t0 : List Done) : Nat → (Int × Int) → Option (LR Bool Unit)
  | 0, _ => none
  | k + 1, (t3, t8) =>
    bif (ltI t8 (t0.length : Int)) then (bif inR t8 t0.length then ((bif (!(leI (rd t0 t8).mClient t3)) then F137 k (rd t0 t8).mClient else some default).bind fun t19 => (bif (!((leI (rd t0 t8).mClient t3) || (!t19))) then F137 k (rd t0 t8).mReq else some default).bind fun t25 => (bif (!(((leI (rd t0 t8).mClient t3) || (!t19)) || (!t25))) then F138 k (rd t0 t8).mAnswer else some default).bind fun t31 => bif ((((leI (rd t0 t8).mClient t3) || (!t19)) || (!t25)) || (!t31)) then (some (.ret false)) else (F82_l1 t0 k ((rd t0 t8).mClient, (IntKind.wrap .i64 (t8 + 1))))) else none) else (some (.out ()))
def F82 (k : Nat) (t0 : List Done) : Option Bool :=
  (F82_l1 t0 k (0, 0)).bind fun t => t.go fun _ => some (leI (t0.length : Int) 8)
def F61 (k : Nat) (t0 : Span) (t1 : ByteArray) : Option Bool :=
  (F80 k t0).bind fun t6 => (bif t6 then F122 k t1 else some default).bind fun t9 => (bif (t6 && t9) then F124 k t0.mLo t1 else some default).bind fun t15 => (bif (((t6 && t9) && (leI t15 0)) && (!(strEq t0.mHi (⟨#[]⟩ : ByteArray)))) then F124 k t1 t0.mHi else some default).bind fun t26 => some (((t6 && t9) && (leI t15 0)) && ((strEq t0.mHi (⟨#[]⟩ : ByteArray)) || (ltI t26 0)))
def F84 (k : Nat) (t0 : Entry) (t1 : Shard) : Option Bool :=
  (F61 k t1.mSpan t0.mKey).bind fun t8 => some (!t8)
def F139_84_l1 (t0 : List Entry) (t1u0 : Shard) : Nat → Int → Option (LR Int Unit)
  | 0, _ => none
  | k + 1, t8 =>
    bif (ltI t8 (t0.length : Int)) then (bif inR t8 t0.length then ((F84 k (rd t0 t8) t1u0).bind fun t16 => bif t16 then (some (.ret t8)) else (F139_84_l1 t0 t1u0 k (IntKind.wrap .i64 (t8 + 1)))) else none) else (some (.out ()))
def F139_84 (k : Nat) (t0 : List Entry) (t1u0 : Shard) : Option Int :=
  (F139_84_l1 t0 t1u0 k 0).bind fun t => t.go fun _ => some (-1)
def F83_84 (k : Nat) (t0 : List Entry) (t1u0 : Shard) : Option Bool :=
  (F139_84 k t0 t1u0).bind fun t7 => some (leI 0 t7)
def F20 (k : Nat) (t0 : Shard) : Option Bool :=
  (F57 k 1 ([t0.mID, t0.mEpoch])).bind fun t8 => (bif (!(!t8)) then F57 k 0 ([t0.mHold, t0.mSeen, t0.mMove, t0.mClosed]) else some default).bind fun t20 => bif ((((!t8) || (!t20)) || (ltI t0.mPhase 1)) || (ltI 3 t0.mPhase)) then (some false) else ((F80 k t0.mSpan).bind fun t35 => (bif (!(!t35)) then F81 k t0.mEntries else some default).bind fun t40 => (bif (!((!t35) || (!t40))) then F36 k t0.mMark else some default).bind fun t46 => (bif (!(((!t35) || (!t40)) || (!t46))) then F36 k t0.mTop else some default).bind fun t52 => (bif (!((((!t35) || (!t40)) || (!t46)) || (!t52))) then F82 k t0.mDone else some default).bind fun t58 => bif (((((!t35) || (!t40)) || (!t46)) || (!t52)) || (!t58)) then (some false) else ((F83_84 k t0.mEntries t0).bind fun t64 => some (!t64)))
def F142 (k : Nat) (t0 : Entry) (t1 : Stamp) : Option Bool :=
  bif inR (IntKind.wrap .i64 ((t0.mChain.length : Int) - 1)) t0.mChain.length then ((F42 k (rd t0.mChain (IntKind.wrap .i64 ((t0.mChain.length : Int) - 1))).mAt t1).bind fun t14 => some (ltI 0 t14)) else none
def F139_142_l1 (t0 : List Entry) (t1u0 : Stamp) : Nat → Int → Option (LR Int Unit)
  | 0, _ => none
  | k + 1, t8 =>
    bif (ltI t8 (t0.length : Int)) then (bif inR t8 t0.length then ((F142 k (rd t0 t8) t1u0).bind fun t16 => bif t16 then (some (.ret t8)) else (F139_142_l1 t0 t1u0 k (IntKind.wrap .i64 (t8 + 1)))) else none) else (some (.out ()))
def F139_142 (k : Nat) (t0 : List Entry) (t1u0 : Stamp) : Option Int :=
  (F139_142_l1 t0 t1u0 k 0).bind fun t => t.go fun _ => some (-1)
def F83_142 (k : Nat) (t0 : List Entry) (t1u0 : Stamp) : Option Bool :=
  (F139_142 k t0 t1u0).bind fun t7 => some (leI 0 t7)
def F90 (k : Nat) (t0 : Shard) (t1 : Stamp) : Option Bool :=
  (F83_142 k t0.mEntries t1).bind fun t8 => some (!t8)
def F25_l1 (t0 : Cell) : Nat → (Int × Int) → Option (LR Bool Unit)
  | 0, _ => none
  | k + 1, (t3, t9) =>
    bif (ltI t9 (t0.mShards.length : Int)) then (bif inR t9 t0.mShards.length then ((bif (!(leI (rd t0.mShards t9).mID t3)) then F20 k (rd t0.mShards t9) else some default).bind fun t19 => (bif (!((leI (rd t0.mShards t9).mID t3) || (!t19))) then F90 k (rd t0.mShards t9) t0.mTop else some default).bind fun t26 => bif (((leI (rd t0.mShards t9).mID t3) || (!t19)) || (!t26)) then (some (.ret false)) else (F25_l1 t0 k ((rd t0.mShards t9).mID, (IntKind.wrap .i64 (t9 + 1))))) else none) else (some (.out ()))
def F25 (k : Nat) (t0 : Cell) : Option Bool :=
  (F25_l1 t0 k (0, 0)).bind fun t => t.go fun _ => (bif (leI (t0.mShards.length : Int) 8) then F36 k t0.mTop else some default).bind fun t39 => (bif ((leI (t0.mShards.length : Int) 8) && t39) then F57 k 0 ([t0.mDropped]) else some default).bind fun t45 => some (((leI (t0.mShards.length : Int) 8) && t39) && t45)
def F58 (k : Nat) (t0 : Request) : Option Bool :=
  (F57 k 1 ([t0.mClient, t0.mReq])).bind fun t8 => (bif (!(((((((!t8) || (ltI t0.mKind 1)) || (ltI 6 t0.mKind)) || (ltI 16 (t0.mValue.size : Int))) || (ltI 16 (t0.mOld.size : Int))) || (ltI t0.mLimit 0)) || (ltI 8 t0.mLimit))) then F36 k t0.mAt else some default).bind fun t45 => (bif ((!((((((((!t8) || (ltI t0.mKind 1)) || (ltI 6 t0.mKind)) || (ltI 16 (t0.mValue.size : Int))) || (ltI 16 (t0.mOld.size : Int))) || (ltI t0.mLimit 0)) || (ltI 8 t0.mLimit)) || (!t45))) && (!strEq t0.mHi (⟨#[]⟩ : ByteArray))) then F122 k t0.mHi else some default).bind fun t55 => bif (((((((((!t8) || (ltI t0.mKind 1)) || (ltI 6 t0.mKind)) || (ltI 16 (t0.mValue.size : Int))) || (ltI 16 (t0.mOld.size : Int))) || (ltI t0.mLimit 0)) || (ltI 8 t0.mLimit)) || (!t45)) || ((!strEq t0.mHi (⟨#[]⟩ : ByteArray)) && (!t55))) then (some false) else (bif (eqI t0.mKind 6) then ((bif (!(strEq t0.mKey (⟨#[]⟩ : ByteArray))) then F122 k t0.mKey else some default).bind fun t68 => some (((strEq t0.mKey (⟨#[]⟩ : ByteArray)) || t68) && (leI 1 t0.mLimit))) else ((F122 k t0.mKey).bind fun t77 => some t77))
def F59 (k : Nat) (t0 : Int) : Option Answer :=
  some (⟨t0, (⟨0, 0, 0⟩ : Stamp), false, (⟨#[]⟩ : ByteArray), ([] : List Item), (⟨#[]⟩ : ByteArray), false⟩ : Answer)
def F156 (k : Nat) (t0 : Shard) (t1 : Int) : Option Int :=
  some (IntKind.wrap .i64 (t0.mID - t1))
def F155_156_l1 (t0 : List Shard) (t1 : Int) : Nat → (Int × Int) → Option Int
  | 0, _ => none
  | k + 1, (t9_1, t10) =>
    bif (ltI t9_1 t10) then (bnd ((shrI .u64 (IntKind.wrap .u64 (IntKind.wrap .i64 (t9_1 + t10))) 1)) fun t22 => bif inR (IntKind.wrap .i64 t22) t0.length then ((F156 k (rd t0 (IntKind.wrap .i64 t22)) t1).bind fun t30 => bif (ltI t30 0) then (F155_156_l1 t0 t1 k ((IntKind.wrap .i64 ((IntKind.wrap .i64 t22) + 1)), t10)) else (F155_156_l1 t0 t1 k (t9_1, (IntKind.wrap .i64 t22)))) else none) else (some t9_1)
def F155_156 (k : Nat) (t0 : List Shard) (t1 : Int) : Option (Int × Bool) :=
  (F155_156_l1 t0 t1 k (0, (t0.length : Int))).bind fun t9 => bif (!(ltI t9 (t0.length : Int)) || inR t9 t0.length) then ((bif (ltI t9 (t0.length : Int)) then F156 k (rd t0 t9) t1 else some default).bind fun t46 => some (t9, ((ltI t9 (t0.length : Int)) && (eqI t46 0)))) else none
def F123 (k : Nat) (t0 : Cell) (t1 : Int) : Option (Int × Bool) :=
  (F155_156 k t0.mShards t1).bind fun (t9a, t9b) => some (t9a, t9b)
def F60 (k : Nat) (t0 : Cell) (t1 : Int) : Option Shard :=
  (F123 k t0 t1).bind fun (t10a, t10b) => bif t10b then (bif inR t10a t0.mShards.length then (some (rd t0.mShards t10a)) else none) else (some (⟨0, 0, (⟨(⟨#[]⟩ : ByteArray), (⟨#[]⟩ : ByteArray)⟩ : Span), 0, ([] : List Entry), (⟨0, 0, 0⟩ : Stamp), (⟨0, 0, 0⟩ : Stamp), ([] : List Done), 0, 0, 0, 0⟩ : Shard))
def F62 (k : Nat) (t0 : Request) : Option Bool :=
  some (((eqI t0.mKind 1) || (eqI t0.mKind 2)) || (eqI t0.mKind 3))
def F176 (k : Nat) (t0 : Done) (t1 : Int) : Option Bool :=
  some (leI t1 t0.mClient)
def F175_176_l1 (t0 : List Done) (t1u0 : Int) : Nat → Int → Option (LR Int Unit)
  | 0, _ => none
  | k + 1, t8 =>
    bif (ltI t8 (t0.length : Int)) then (bif inR t8 t0.length then ((F176 k (rd t0 t8) t1u0).bind fun t16 => bif t16 then (some (.ret t8)) else (F175_176_l1 t0 t1u0 k (IntKind.wrap .i64 (t8 + 1)))) else none) else (some (.out ()))
def F175_176 (k : Nat) (t0 : List Done) (t1u0 : Int) : Option Int :=
  (F175_176_l1 t0 t1u0 k 0).bind fun t => t.go fun _ => some (-1)
def F157 (k : Nat) (t0 : List Done) (t1 : Int) : Option (Int × Bool) :=
  (F175_176 k t0 t1).bind fun t9 => bif (ltI t9 0) then (some ((t0.length : Int), false)) else (bif inR t9 t0.length then (some (t9, (eqI (rd t0 t9).mClient t1))) else none)
def F126 (k : Nat) (t0 : List Done) (t1 : Int) : Option (Done × Bool) :=
  (F82 k t0).bind fun t9 => bif (!t9) then (some ((⟨0, 0, (⟨0, (⟨0, 0, 0⟩ : Stamp), false, (⟨#[]⟩ : ByteArray), ([] : List Item), (⟨#[]⟩ : ByteArray), false⟩ : Answer)⟩ : Done), false)) else ((F157 k t0 t1).bind fun (t15a, t15b) => bif (!t15b) then (some ((⟨0, 0, (⟨0, (⟨0, 0, 0⟩ : Stamp), false, (⟨#[]⟩ : ByteArray), ([] : List Item), (⟨#[]⟩ : ByteArray), false⟩ : Answer)⟩ : Done), false)) else (bif inR t15a t0.length then (some ((rd t0 t15a), true)) else none))
def F125 (k : Nat) (t0 : List Done) (t1 : Int) (t2 : Int) : Option Int :=
  (F82 k t0).bind fun t10 => (bif (!(!t10)) then F137 k t1 else some default).bind fun t14 => (bif (!((!t10) || (!t14))) then F137 k t2 else some default).bind fun t19 => bif (((!t10) || (!t14)) || (!t19)) then (some 0) else ((F126 k t0 t1).bind fun (t25a, t25b) => bif ((!t25b) || (ltI t25a.mReq t2)) then (some 1) else (bif (eqI t2 t25a.mReq) then (some 2) else (some 3)))
def F172 (k : Nat) (t0 : Entry) (t1 : ByteArray) : Option Int :=
  (F124 k t0.mKey t1).bind fun t8 => some t8
def F171_172_l1 (t0 : List Entry) (t1 : ByteArray) : Nat → (Int × Int) → Option Int
  | 0, _ => none
  | k + 1, (t9_1, t10) =>
    bif (ltI t9_1 t10) then (bnd ((shrI .u64 (IntKind.wrap .u64 (IntKind.wrap .i64 (t9_1 + t10))) 1)) fun t22 => bif inR (IntKind.wrap .i64 t22) t0.length then ((F172 k (rd t0 (IntKind.wrap .i64 t22)) t1).bind fun t30 => bif (ltI t30 0) then (F171_172_l1 t0 t1 k ((IntKind.wrap .i64 ((IntKind.wrap .i64 t22) + 1)), t10)) else (F171_172_l1 t0 t1 k (t9_1, (IntKind.wrap .i64 t22)))) else none) else (some t9_1)
def F171_172 (k : Nat) (t0 : List Entry) (t1 : ByteArray) : Option (Int × Bool) :=
  (F171_172_l1 t0 t1 k (0, (t0.length : Int))).bind fun t9 => bif (!(ltI t9 (t0.length : Int)) || inR t9 t0.length) then ((bif (ltI t9 (t0.length : Int)) then F172 k (rd t0 t9) t1 else some default).bind fun t46 => some (t9, ((ltI t9 (t0.length : Int)) && (eqI t46 0)))) else none
def F148 (k : Nat) (t0 : List Entry) (t1 : ByteArray) : Option (Int × Bool) :=
  (F171_172 k t0 t1).bind fun (t8a, t8b) => some (t8a, t8b)
def F183 (k : Nat) (t0 : Version) (t1 : Stamp) : Option Int :=
  (F42 k t0.mAt t1).bind fun t8 => some t8
def F182_183_l1 (t0 : List Version) (t1 : Stamp) : Nat → (Int × Int) → Option Int
  | 0, _ => none
  | k + 1, (t9_1, t10) =>
    bif (ltI t9_1 t10) then (bnd ((shrI .u64 (IntKind.wrap .u64 (IntKind.wrap .i64 (t9_1 + t10))) 1)) fun t22 => bif inR (IntKind.wrap .i64 t22) t0.length then ((F183 k (rd t0 (IntKind.wrap .i64 t22)) t1).bind fun t30 => bif (ltI t30 0) then (F182_183_l1 t0 t1 k ((IntKind.wrap .i64 ((IntKind.wrap .i64 t22) + 1)), t10)) else (F182_183_l1 t0 t1 k (t9_1, (IntKind.wrap .i64 t22)))) else none) else (some t9_1)
def F182_183 (k : Nat) (t0 : List Version) (t1 : Stamp) : Option (Int × Bool) :=
  (F182_183_l1 t0 t1 k (0, (t0.length : Int))).bind fun t9 => bif (!(ltI t9 (t0.length : Int)) || inR t9 t0.length) then ((bif (ltI t9 (t0.length : Int)) then F183 k (rd t0 t9) t1 else some default).bind fun t46 => some (t9, ((ltI t9 (t0.length : Int)) && (eqI t46 0)))) else none
def F169 (k : Nat) (t0 : List Version) (t1 : Stamp) : Option Int :=
  (F182_183 k t0 t1).bind fun (t10a, t10b) => bif t10b then (some (IntKind.wrap .i64 (t10a + 1))) else (some t10a)
def F150 (k : Nat) (t0 : List Version) (t1 : Stamp) : Option (Version × Bool) :=
  (F136 k t0).bind fun t8 => bif (!t8) then (some ((⟨(⟨0, 0, 0⟩ : Stamp), false, (⟨#[]⟩ : ByteArray)⟩ : Version), false)) else ((F169 k t0 t1).bind fun t13 => bif (eqI t13 0) then (some ((⟨(⟨0, 0, 0⟩ : Stamp), false, (⟨#[]⟩ : ByteArray)⟩ : Version), false)) else (bif inR (IntKind.wrap .i64 (t13 - 1)) t0.length then (some ((rd t0 (IntKind.wrap .i64 (t13 - 1))), true)) else none))
def F118 (k : Nat) (t0 : List Entry) (t1 : ByteArray) (t2 : Stamp) : Option (Version × Bool) :=
  (F81 k t0).bind fun t11 => bif (!t11) then (some ((⟨(⟨0, 0, 0⟩ : Stamp), false, (⟨#[]⟩ : ByteArray)⟩ : Version), false)) else ((F148 k t0 t1).bind fun (t17a, t17b) => bif (!(!(!t17b)) || inR t17a t0.length) then (bif ((!t17b) || (!strEq (rd t0 t17a).mKey t1)) then (some ((⟨(⟨0, 0, 0⟩ : Stamp), false, (⟨#[]⟩ : ByteArray)⟩ : Version), false)) else (bif inR t17a t0.length then ((F150 k (rd t0 t17a).mChain t2).bind fun (t38a, t38b) => some (t38a, t38b)) else none)) else none)
def F64 (k : Nat) (t0 : Cell) (t1 : Shard) (t2 : ByteArray) : Option Answer :=
  (F118 k t1.mEntries t2 t0.mTop).bind fun (t15a, t15b) => some (⟨0, t15a.mAt, (t15b && (!t15a.mGone)), t15a.mValue, ([] : List Item), (⟨#[]⟩ : ByteArray), false⟩ : Answer)
def F170 (k : Nat) (t0 : List Version) : Option (List Version) :=
  bif appOK 48 ([] : List Version).length t0.length then (some (([] : List Version) ++ t0)) else none
def F170o (k : Nat) (t0 : List Version) : Option (List Version) :=
  bif appOK 48 ([] : List Version).length t0.length then (some (([] : List Version) ++ t0)) else none
def F158 (k : Nat) (t0 : List Version) (t1 : Version) : Option ((List Version) × Int) :=
  (F136 k t0).bind fun t8 => (bif (!(!t8)) then F166 k t1 else some default).bind fun t12 => bif ((!t8) || (!t12)) then (some (([] : List Version), 1)) else (bif (!(ltI 0 (t0.length : Int)) || inR (IntKind.wrap .i64 ((t0.length : Int) - 1)) t0.length) then ((bif (ltI 0 (t0.length : Int)) then F42 k (rd t0 (IntKind.wrap .i64 ((t0.length : Int) - 1))).mAt t1.mAt else some default).bind fun t29 => bif ((ltI 0 (t0.length : Int)) && (leI 0 t29)) then (some (([] : List Version), 9)) else (bif (eqI (t0.length : Int) 64) then (some (([] : List Version), 6)) else ((F170o k t0).bind fun t37 => bif appOK 48 t37.length ([t1]).length then (some ((t37 ++ [t1]), 0)) else none))) else none)
def F173o (k : Nat) (t0 : List Entry) : Option (List Entry) :=
  bif appOK 40 ([] : List Entry).length t0.length then (some (([] : List Entry) ++ t0)) else none
def F149_l1 (t6 : List Entry) : Nat → ((List Entry) × Int) → Option (List Entry)
  | 0, _ => none
  | k + 1, (t3_1, t9) =>
    bif (ltI t9 (t6.length : Int)) then (bif inR t9 t3_1.length then ((F170 k (rd t3_1 t9).mChain).bind fun t19 => bif inR t9 t3_1.length then (F149_l1 t6 k ((t3_1.set t9.toNat ({(rd t3_1 t9) with mChain := t19})), (IntKind.wrap .i64 (t9 + 1)))) else none) else none) else (some t3_1)
def F149 (k : Nat) (t0 : List Entry) : Option (List Entry) :=
  (F173o k t0).bind fun t6 => (F149_l1 t6 k (t6, 0)).bind fun t3 => some t3
def F149o_l1 (t6 : List Entry) : Nat → ((List Entry) × Int) → Option (List Entry)
  | 0, _ => none
  | k + 1, (t3_1, t9) =>
    bif (ltI t9 (t6.length : Int)) then (bif inR t9 t3_1.length then ((F170 k (rd t3_1 t9).mChain).bind fun t19 => bif inR t9 t3_1.length then (F149o_l1 t6 k ((t3_1.set t9.toNat ({(rd t3_1 t9) with mChain := t19})), (IntKind.wrap .i64 (t9 + 1)))) else none) else none) else (some t3_1)
def F149o (k : Nat) (t0 : List Entry) : Option (List Entry) :=
  (F173o k t0).bind fun t6 => (F149o_l1 t6 k (t6, 0)).bind fun t3 => some t3
def F127 (k : Nat) (t0 : List Entry) (t1 : ByteArray) (t2 : Version) : Option ((List Entry) × Int) :=
  (F81 k t0).bind fun t15 => (bif (!(!t15)) then F122 k t1 else some default).bind fun t19 => bif ((!t15) || (!t19)) then (some (([] : List Entry), 1)) else ((F148 k t0 t1).bind fun (t25a, t25b) => (bif t25b then (bif inR t25a t0.length then (some (rd t0 t25a).mChain) else none) else (some [])).bind fun t10 => (F158 k t10 t2).bind fun (t37a, t37b) => bif (!eqI t37b 0) then (some (([] : List Entry), t37b)) else (bif ((!t25b) && (eqI (t0.length : Int) 64)) then (some (([] : List Entry), 6)) else ((F149o k t0).bind fun t53 => bif (!t25b) then (bif insOK 40 t25a t53.length then (bif inR t25a (List.take t25a.toNat t53 ++ [(⟨t1, ([] : List Version)⟩ : Entry)] ++ List.drop t25a.toNat t53).length then (some (((List.take t25a.toNat t53 ++ [(⟨t1, ([] : List Version)⟩ : Entry)] ++ List.drop t25a.toNat t53).set t25a.toNat ({(rd (List.take t25a.toNat t53 ++ [(⟨t1, ([] : List Version)⟩ : Entry)] ++ List.drop t25a.toNat t53) t25a) with mChain := t37a})), 0)) else none) else none) else (bif inR t25a t53.length then (some ((t53.set t25a.toNat ({(rd t53 t25a) with mChain := t37a})), 0)) else none))))
def F160o (k : Nat) (t0 : List Done) : Option (List Done) :=
  bif appOK 120 ([] : List Done).length t0.length then (some (([] : List Done) ++ t0)) else none
def F128 (k : Nat) (t0 : List Done) (t1 : Done) : Option ((List Done) × Int) :=
  (F82 k t0).bind fun t10 => (bif (!(!t10)) then F82 k ([t1]) else some default).bind fun t15 => bif ((!t10) || (!t15)) then (some (([] : List Done), 1)) else ((F157 k t0 t1.mClient).bind fun (t22a, t22b) => bif (!t22b || inR t22a t0.length) then (bif (t22b && (leI t1.mReq (rd t0 t22a).mReq)) then (some (([] : List Done), 9)) else (bif ((!t22b) && (eqI (t0.length : Int) 8)) then (some (([] : List Done), 6)) else ((F160o k t0).bind fun t46 => bif t22b then (bif inR t22a t46.length then (some ((t46.set t22a.toNat t1), 0)) else none) else (bif insOK 120 t22a t46.length then (some ((List.take t22a.toNat t46 ++ [t1] ++ List.drop t22a.toNat t46), 0)) else none)))) else none)
def F98o (k : Nat) (t0 : List Shard) : Option (List Shard) :=
  bif appOK 184 ([] : List Shard).length t0.length then (some (([] : List Shard) ++ t0)) else none
def F95 (k : Nat) (t0 : Cell) (t1 : Shard) : Option Cell :=
  (F123 k t0 t1.mID).bind fun (t11a, t11b) => (F98o k t0.mShards).bind fun t16 => bif t11b then (bif inR t11a t16.length then (some ({t0 with mShards := (t16.set t11a.toNat t1)})) else none) else (bif insOK 184 t11a t16.length then (some ({t0 with mShards := (List.take t11a.toNat t16 ++ [t1] ++ List.drop t11a.toNat t16)})) else none)
def F63 (k : Nat) (t0 : Cell) (t1 : Shard) (t2 : Request) (t3 : Stamp) : Option (Cell × Answer) :=
  (F125 k t1.mDone t2.mClient t2.mReq).bind fun t21 => bif (eqI t21 2) then ((F126 k t1.mDone t2.mClient).bind fun (t29a, t29b) => some (t0, t29a.mAnswer)) else (bif (eqI t21 3) then ((F59 k 10).bind fun t38 => some (t0, t38)) else ((F42 k t3 t0.mTop).bind fun t42 => bif (leI t42 0) then ((F59 k 1).bind fun t45 => some (t0, t45)) else ((F64 k t0 t1 t2.mKey).bind fun t50 => (bif ((eqI t2.mKind 3) && ((!(t50.mFound == t2.mHad)) || (t50.mFound && (!strEq t50.mValue t2.mOld)))) then (some (0, t1.mEntries, 15, t50.mValue)) else (bif (!eqI t2.mKind 2) then ((F127 k t1.mEntries t2.mKey (⟨t3, false, t2.mValue⟩ : Version)).bind fun (t94a, t94b) => some (t94b, t94a, 0, (⟨#[]⟩ : ByteArray))) else (bif t50.mFound then ((F127 k t1.mEntries t2.mKey (⟨t3, true, (⟨#[]⟩ : ByteArray)⟩ : Version)).bind fun (t108a, t108b) => some (t108b, t108a, 0, (⟨#[]⟩ : ByteArray))) else (some (0, t1.mEntries, 0, (⟨#[]⟩ : ByteArray)))))).bind fun (t14, t5c5, t13c0, t13c5) => bif (!eqI t14 0) then ((F59 k t14).bind fun t116 => some (t0, t116)) else ((F128 k t1.mDone (⟨t2.mClient, t2.mReq, (⟨t13c0, t3, t50.mFound, t13c5, ([] : List Item), (⟨#[]⟩ : ByteArray), false⟩ : Answer)⟩ : Done)).bind fun (t126a, t126b) => bif (!eqI t126b 0) then ((F59 k t126b).bind fun t134 => some (t0, t134)) else ((F95 k t0 ({t1 with mEntries := t5c5, mDone := t126a})).bind fun t137 => some ({t137 with mTop := t3}, (⟨t13c0, t3, t50.mFound, t13c5, ([] : List Item), (⟨#[]⟩ : ByteArray), false⟩ : Answer)))))))
def F37 (k : Nat) (t0 : Stamp) (t1 : Stamp) : Option Stamp :=
  (F42 k t0 t1).bind fun t7 => bif (ltI t7 0) then (some t1) else (some t0)
def F162 (k : Nat) (t0 : List Version) (t1 : Stamp) : Option (ByteArray × Bool) :=
  (F150 k t0 t1).bind fun (t11a, t11b) => some (t11a.mValue, (t11b && (!t11a.mGone)))
def F129_l1 (t0 : List Entry) (t2 : ByteArray) (t3 : Stamp) (t4 : Int) (t26a : Int) : Nat → ((List Item) × Int) → Option (LR ((List Item) × ByteArray × Bool) (List Item))
  | 0, _ => none
  | k + 1, (t13_1, t33) =>
    bif (ltI t33 ((List.drop t26a.toNat t0).length : Int)) then (bif inR t33 (List.drop t26a.toNat t0).length then ((bif (!strEq t2 (⟨#[]⟩ : ByteArray)) then F124 k (rd (List.drop t26a.toNat t0) t33).mKey t2 else some default).bind fun t43 => bif ((!strEq t2 (⟨#[]⟩ : ByteArray)) && (leI 0 t43)) then (some (.out t13_1)) else ((F162 k (rd (List.drop t26a.toNat t0) t33).mChain t3).bind fun (t50a, t50b) => bif (!t50b) then (F129_l1 t0 t2 t3 t4 t26a k (t13_1, (IntKind.wrap .i64 (t33 + 1)))) else (bif (leI t4 (t13_1.length : Int)) then (some (.ret (t13_1, (rd (List.drop t26a.toNat t0) t33).mKey, true))) else (bif appOK 32 t13_1.length ([(⟨(rd (List.drop t26a.toNat t0) t33).mKey, t50a⟩ : Item)]).length then (F129_l1 t0 t2 t3 t4 t26a k ((t13_1 ++ [(⟨(rd (List.drop t26a.toNat t0) t33).mKey, t50a⟩ : Item)]), (IntKind.wrap .i64 (t33 + 1)))) else none)))) else none) else (some (.out t13_1))
def F129 (k : Nat) (t0 : List Entry) (t1 : ByteArray) (t2 : ByteArray) (t3 : Stamp) (t4 : Int) : Option ((List Item) × ByteArray × Bool) :=
  (F81 k t0).bind fun t21 => bif (!t21) then (some (([] : List Item), (⟨#[]⟩ : ByteArray), false)) else ((F148 k t0 t1).bind fun (t26a, t26b) => (bif cutOK t26a (t0.length : Int) t0.length then (F129_l1 t0 t2 t3 t4 t26a k ([], 0)) else none).bind fun t => t.go fun t13 => some (t13, (⟨#[]⟩ : ByteArray), false))
def F65 (k : Nat) (t0 : Cell) (t1 : Shard) (t2 : Request) (t3 : Int) : Option (Cell × Answer) :=
  (F42 k t2.mAt t1.mMark).bind fun t20 => bif (ltI t20 0) then ((F59 k 13).bind fun t23 => some (t0, t23)) else (bif (ltI t3 (IntKind.wrap .i64 (t2.mAt.mWall - 1000))) then ((F59 k 12).bind fun t32 => some (t0, t32)) else ((F37 k t0.mTop t2.mAt).bind fun t37 => bif (eqI t2.mKind 5) then ((F118 k t1.mEntries t2.mKey t2.mAt).bind fun (t52a, t52b) => some ({t0 with mTop := t37}, (⟨0, t2.mAt, (t52b && (!t52a.mGone)), t52a.mValue, ([] : List Item), (⟨#[]⟩ : ByteArray), false⟩ : Answer))) else ((bif ((!strEq t1.mSpan.mHi (⟨#[]⟩ : ByteArray)) && (!(strEq t2.mHi (⟨#[]⟩ : ByteArray)))) then F124 k t1.mSpan.mHi t2.mHi else some default).bind fun t81 => (bif ((!strEq t1.mSpan.mHi (⟨#[]⟩ : ByteArray)) && ((strEq t2.mHi (⟨#[]⟩ : ByteArray)) || (ltI t81 0))) then (some t1.mSpan.mHi) else (some t2.mHi)).bind fun t13 => (F129 k t1.mEntries t2.mKey t13 t2.mAt t2.mLimit).bind fun (t99a, t99b, t99c) => bif (((!strEq t1.mSpan.mHi (⟨#[]⟩ : ByteArray)) && ((strEq t2.mHi (⟨#[]⟩ : ByteArray)) || (ltI t81 0))) && (!t99c)) then (some ({t0 with mTop := t37}, (⟨0, t2.mAt, false, (⟨#[]⟩ : ByteArray), t99a, t13, true⟩ : Answer))) else (some ({t0 with mTop := t37}, (⟨0, t2.mAt, false, (⟨#[]⟩ : ByteArray), t99a, t99b, t99c⟩ : Answer))))))
def F16 (k : Nat) (t0 : Cell) (t1 : Int) (t2 : Int) (t3 : Request) (t4 : Stamp) (t5 : Int) : Option (Cell × Answer) :=
  (F25 k t0).bind fun t17 => (bif (!(!t17)) then F57 k 1 ([t1, t2]) else some default).bind fun t23 => (bif (!((!t17) || (!t23))) then F57 k 0 ([t5]) else some default).bind fun t29 => (bif (!(((!t17) || (!t23)) || (!t29))) then F36 k t4 else some default).bind fun t34 => (bif (!((((!t17) || (!t23)) || (!t29)) || (!t34))) then F58 k t3 else some default).bind fun t39 => bif (((((!t17) || (!t23)) || (!t29)) || (!t34)) || (!t39)) then ((F59 k 1).bind fun t43 => some (t0, t43)) else ((F60 k t0 t1).bind fun t46 => (bif (!((strEq t3.mKey (⟨#[]⟩ : ByteArray)) && (strEq t46.mSpan.mLo (⟨#[]⟩ : ByteArray)))) then F61 k t46.mSpan t3.mKey else some default).bind fun t61 => bif (((eqI t46.mID 0) || (!eqI t46.mEpoch t2)) || (!(((strEq t3.mKey (⟨#[]⟩ : ByteArray)) && (strEq t46.mSpan.mLo (⟨#[]⟩ : ByteArray))) || t61))) then ((F59 k 10).bind fun t78 => some (t0, t78)) else ((bif (!(!eqI t46.mPhase 1)) then F62 k t3 else some default).bind fun t85 => bif ((!eqI t46.mPhase 1) || (t85 && (!eqI t46.mHold 0))) then ((F59 k 11).bind fun t93 => some (t0, t93)) else ((F62 k t3).bind fun t96 => bif t96 then ((F63 k t0 t46 t3 t4).bind fun (t101a, t101b) => some (t101a, t101b)) else (bif (eqI t3.mKind 4) then ((F64 k t0 t46 t3.mKey).bind fun t113 => some (t0, t113)) else ((F65 k t0 t46 t3 t5).bind fun (t118a, t118b) => some (t118a, t118b))))))
def F15 (k : Nat) : Option Bool :=
  (F56 k 5).bind fun t12 => (F16 k (⟨([(⟨1, 1, (⟨⟨#[]⟩, ⟨#[]⟩⟩ : Span), 1, ([] : List Entry), (⟨0, 0, 0⟩ : Stamp), (⟨0, 0, 0⟩ : Stamp), ([] : List Done), 0, 0, 0, 0⟩ : Shard)]), (⟨0, 0, 0⟩ : Stamp), 0⟩ : Cell) 1 1 (⟨1, 1, 1, (⟨#[97]⟩ : ByteArray), (⟨#[120]⟩ : ByteArray), false, (⟨#[]⟩ : ByteArray), (⟨0, 0, 0⟩ : Stamp), (⟨#[]⟩ : ByteArray), 0⟩ : Request) t12 0).bind fun (t13a, t13b) => (F56 k 6).bind fun t19 => (F16 k t13a 1 1 (⟨1, 2, 4, (⟨#[97]⟩ : ByteArray), (⟨#[]⟩ : ByteArray), false, (⟨#[]⟩ : ByteArray), (⟨0, 0, 0⟩ : Stamp), (⟨#[]⟩ : ByteArray), 0⟩ : Request) t19 0).bind fun (t20a, t20b) => (F25 k t13a).bind fun t24 => (bif t24 then F56 k 5 else some default).bind fun t28 => (bif ((((t24 && (qStamp t13b.mAt t28)) && (eqI t13b.mErr 0)) && t20b.mFound) && (strEq t20b.mValue (⟨#[120]⟩ : ByteArray))) then F56 k 5 else some default).bind fun t48 => some (((((t24 && (qStamp t13b.mAt t28)) && (eqI t13b.mErr 0)) && t20b.mFound) && (strEq t20b.mValue (⟨#[120]⟩ : ByteArray))) && (qStamp t20b.mAt t48))
def F68 (k : Nat) (t0 : Stamp) : Option Bool :=
  some ((((((leI 0 t0.mWall) && (leI t0.mWall 1099511627776)) && (leI 0 t0.mTick)) && (leI t0.mTick 1048576)) && (leI 0 t0.mNode)) && (leI t0.mNode 255))
def F66 (k : Nat) (t0 : Int) : Option Bool :=
  some ((ltI 0 t0) && (leI t0 1099511627776))
def F67 (k : Nat) (t0 : Int) : Option Bool :=
  (bif (!(eqI t0 0)) then F66 k t0 else some default).bind fun t7 => some ((eqI t0 0) || t7)
def F163_l1 (t0 : ByteArray) (t5 : Int) : Nat → (Int × Int) → Option (LR (Int × Int) Int)
  | 0, _ => none
  | k + 1, (t4_2, t7) =>
    bif (ltI t7 t5) then (bif inR t7 t0.size then (bif (!(!(ltI (bt t0 t7) 128)) || inR t7 t0.size) then (bif ((ltI (bt t0 t7) 128) || (ltI 191 (bt t0 t7))) then (some (.ret ((-1), 1))) else (bif inR t7 t0.size then (bnd ((IntKind.wrap .i64 ((IntKind.wrap .i64 (64 * t4_2)) + (IntKind.wrap .i64 (bt t0 t7))))) fun t67 => F163_l1 t0 t5 k ((IntKind.wrap .i64 (t67 - 128)), (IntKind.wrap .i64 (t7 + 1)))) else none)) else none) else none) else (some (.out t4_2))
def F163 (k : Nat) (t0 : ByteArray) : Option (Int × Int) :=
  bif inR 0 t0.size then (bif (ltI (IntKind.wrap .i64 (bt t0 0)) 128) then (some ((IntKind.wrap .i64 (bt t0 0)), 1)) else ((bif ((leI 194 (IntKind.wrap .i64 (bt t0 0))) && (ltI (IntKind.wrap .i64 (bt t0 0)) 224)) then (some ((IntKind.wrap .i64 ((IntKind.wrap .i64 (bt t0 0)) - 192)), 2, 128)) else (bif ((leI 224 (IntKind.wrap .i64 (bt t0 0))) && (ltI (IntKind.wrap .i64 (bt t0 0)) 240)) then (some ((IntKind.wrap .i64 ((IntKind.wrap .i64 (bt t0 0)) - 224)), 3, 2048)) else (bif ((leI 240 (IntKind.wrap .i64 (bt t0 0))) && (ltI (IntKind.wrap .i64 (bt t0 0)) 245)) then (some ((IntKind.wrap .i64 ((IntKind.wrap .i64 (bt t0 0)) - 240)), 4, 65536)) else (some ((IntKind.wrap .i64 (bt t0 0)), 0, 0))))).bind fun (t4, t5, t6) => bif ((eqI t5 0) || (ltI (t0.size : Int) t5)) then (some ((-1), 1)) else ((F163_l1 t0 t5 k (t4, 1)).bind fun t => t.go fun t4_1 => bif (((ltI t4_1 t6) || (ltI 1114111 t4_1)) || ((leI 55296 t4_1) && (ltI t4_1 57344))) then (some ((-1), 1)) else (some (t4_1, t5))))) else none
def F164 (k : Nat) (t0 : Int) : Option Bool :=
  some (((ltI 32 t0) && (!eqI t0 127)) && ((ltI t0 128) || (ltI 159 t0)))
def F130_l1 : Nat → ByteArray → Option (LR Bool Unit)
  | 0, _ => none
  | k + 1, t0_1 =>
    bif (ltI 0 (t0_1.size : Int)) then ((F163 k t0_1).bind fun (t18a, t18b) => (F164 k t18a).bind fun t22 => bif (!t22) then (some (.ret false)) else (bif cutOK t18b (t0_1.size : Int) t0_1.size then (F130_l1 k (t0_1.extract t18b.toNat (t0_1.size : Int).toNat)) else none)) else (some (.out ()))
def F130 (k : Nat) (t0 : ByteArray) : Option Bool :=
  bif ((eqI (t0.size : Int) 0) || (ltI 16 (t0.size : Int))) then (some false) else ((F130_l1 k t0).bind fun t => t.go fun _ => some true)
def F151_l1 : Nat → (ByteArray × (List Int)) → Option (List Int)
  | 0, _ => none
  | k + 1, (t0_1, t3_1) =>
    bif (ltI 0 (t0_1.size : Int)) then ((F163 k t0_1).bind fun (t11a, t11b) => bif (ltI t11a 0) then (bif appOK 8 t3_1.length ([(65533 : Int)]).length then (bif cutOK t11b (t0_1.size : Int) t0_1.size then (F151_l1 k ((t0_1.extract t11b.toNat (t0_1.size : Int).toNat), (t3_1 ++ [(65533 : Int)]))) else none) else none) else (bif appOK 8 t3_1.length ([t11a]).length then (bif cutOK t11b (t0_1.size : Int) t0_1.size then (F151_l1 k ((t0_1.extract t11b.toNat (t0_1.size : Int).toNat), (t3_1 ++ [t11a]))) else none) else none)) else (some t3_1)
def F151 (k : Nat) (t0 : ByteArray) : Option (List Int) :=
  (F151_l1 k (t0, [])).bind fun t3 => some t3
def F119_l1 (t9 : List Int) (t11 : List Int) : Nat → Int → Option (LR Int Unit)
  | 0, _ => none
  | k + 1, t7 =>
    bif ((ltI t7 (t9.length : Int)) && (ltI t7 (t11.length : Int))) then (bif inR t7 t9.length then (bif inR t7 t11.length then (bif (ltI (rd t9 t7) (rd t11 t7)) then (some (.ret (-1))) else (bif inR t7 t9.length then (bif inR t7 t11.length then (bif (ltI (rd t11 t7) (rd t9 t7)) then (some (.ret 1)) else (F119_l1 t9 t11 k (IntKind.wrap .i64 (t7 + 1)))) else none) else none)) else none) else none) else (some (.out ()))
def F119 (k : Nat) (t0 : ByteArray) (t1 : ByteArray) : Option Int :=
  (F151 k t0).bind fun t9 => (F151 k t1).bind fun t11 => (F119_l1 t9 t11 k 0).bind fun t => t.go fun _ => bif (ltI (t9.length : Int) (t11.length : Int)) then (some (-1)) else (bif (ltI (t11.length : Int) (t9.length : Int)) then (some 1) else (some 0))
def F85 (k : Nat) (t0 : Span) : Option Bool :=
  (bif (ltI 0 (t0.mLo.size : Int)) then F130 k t0.mLo else some default).bind fun t10 => bif ((ltI 0 (t0.mLo.size : Int)) && (!t10)) then (some false) else (bif (eqI (t0.mHi.size : Int) 0) then (some true) else ((F130 k t0.mHi).bind fun t19 => (bif t19 then F119 k t0.mLo t0.mHi else some default).bind fun t25 => some (t19 && (eqI t25 (-1)))))
def F134 (k : Nat) (t0 : Version) : Option Bool :=
  bif (t0.mGone && (ltI 0 (t0.mValue.size : Int))) then (some false) else ((F68 k t0.mAt).bind fun t13 => some (t13 && (ltI (t0.mValue.size : Int) 17)))
def F76 (k : Nat) (t0 : Stamp) (t1 : Stamp) : Option Bool :=
  bif (!eqI t0.mWall t1.mWall) then (some (ltI t0.mWall t1.mWall)) else (bif (!eqI t0.mTick t1.mTick) then (some (ltI t0.mTick t1.mTick)) else (some (ltI t0.mNode t1.mNode)))
def F131_l1 (t0 : List Version) : Nat → Int → Option (LR Bool Unit)
  | 0, _ => none
  | k + 1, t3 =>
    bif (ltI t3 (t0.length : Int)) then (bif inR t3 t0.length then ((F134 k (rd t0 t3)).bind fun t17 => bif (!t17) then (some (.ret false)) else (bif (!(ltI 0 t3) || inR (IntKind.wrap .i64 (t3 - 1)) t0.length) then (bif (!(ltI 0 t3) || inR t3 t0.length) then ((bif (ltI 0 t3) then F76 k (rd t0 (IntKind.wrap .i64 (t3 - 1))).mAt (rd t0 t3).mAt else some default).bind fun t33 => bif ((ltI 0 t3) && (!t33)) then (some (.ret false)) else (F131_l1 t0 k (IntKind.wrap .i64 (t3 + 1)))) else none) else none)) else none) else (some (.out ()))
def F131 (k : Nat) (t0 : List Version) : Option Bool :=
  bif (ltI 64 (t0.length : Int)) then (some false) else ((F131_l1 t0 k 0).bind fun t => t.go fun _ => some true)
def F86_l1 (t0 : List Entry) : Nat → Int → Option (LR Bool Unit)
  | 0, _ => none
  | k + 1, t3 =>
    bif (ltI t3 (t0.length : Int)) then (bif inR t3 t0.length then ((F130 k (rd t0 t3).mKey).bind fun t18 => bif (!(!(!t18)) || inR t3 t0.length) then (bif (!(!((!t18) || (eqI ((rd t0 t3).mChain.length : Int) 0))) || inR t3 t0.length) then ((bif (!((!t18) || (eqI ((rd t0 t3).mChain.length : Int) 0))) then F131 k (rd t0 t3).mChain else some default).bind fun t35 => bif (((!t18) || (eqI ((rd t0 t3).mChain.length : Int) 0)) || (!t35)) then (some (.ret false)) else (bif (!(ltI 0 t3) || inR (IntKind.wrap .i64 (t3 - 1)) t0.length) then (bif (!(ltI 0 t3) || inR t3 t0.length) then ((bif (ltI 0 t3) then F119 k (rd t0 (IntKind.wrap .i64 (t3 - 1))).mKey (rd t0 t3).mKey else some default).bind fun t52 => bif ((ltI 0 t3) && (!eqI t52 (-1))) then (some (.ret false)) else (F86_l1 t0 k (IntKind.wrap .i64 (t3 + 1)))) else none) else none)) else none) else none) else none) else (some (.out ()))
def F86 (k : Nat) (t0 : List Entry) : Option Bool :=
  bif (ltI 64 (t0.length : Int)) then (some false) else ((F86_l1 t0 k 0).bind fun t => t.go fun _ => some true)
def F140 (k : Nat) (t0 : Int) : Option Bool :=
  some ((ltI 0 t0) && (leI t0 1099511627776))
def F141 (k : Nat) (t0 : Answer) : Option Bool :=
  bif ((((((ltI t0.mErr 0) || (ltI 16 t0.mErr)) || (ltI 16 (t0.mValue.size : Int))) || (ltI 0 (t0.mItems.length : Int))) || (ltI 0 (t0.mNext.size : Int))) || t0.mMore) then (some false) else ((F68 k t0.mAt).bind fun t35 => some t35)
def F87_l1 (t0 : List Done) : Nat → Int → Option (LR Bool Unit)
  | 0, _ => none
  | k + 1, t3 =>
    bif (ltI t3 (t0.length : Int)) then (bif inR t3 t0.length then ((F140 k (rd t0 t3).mClient).bind fun t18 => bif (!(!(!t18)) || inR t3 t0.length) then ((bif (!(!t18)) then F140 k (rd t0 t3).mReq else some default).bind fun t26 => bif (!(!((!t18) || (!t26))) || inR t3 t0.length) then ((bif (!((!t18) || (!t26))) then F141 k (rd t0 t3).mAnswer else some default).bind fun t35 => bif (((!t18) || (!t26)) || (!t35)) then (some (.ret false)) else (bif (!(ltI 0 t3) || inR (IntKind.wrap .i64 (t3 - 1)) t0.length) then (bif (!(ltI 0 t3) || inR t3 t0.length) then (bif ((ltI 0 t3) && (leI (rd t0 t3).mClient (rd t0 (IntKind.wrap .i64 (t3 - 1))).mClient)) then (some (.ret false)) else (F87_l1 t0 k (IntKind.wrap .i64 (t3 + 1)))) else none) else none)) else none) else none) else none) else (some (.out ()))
def F87 (k : Nat) (t0 : List Done) : Option Bool :=
  bif (ltI 8 (t0.length : Int)) then (some false) else ((F87_l1 t0 k 0).bind fun t => t.go fun _ => some true)
def F55 (k : Nat) (t0 : ByteArray) (t1 : ByteArray) (t2 : ByteArray) : Option Bool :=
  (F119 k t0 t1).bind fun t9 => (bif ((leI 0 t9) && (!(eqI (t2.size : Int) 0))) then F119 k t0 t2 else some default).bind fun t18 => some ((leI 0 t9) && ((eqI (t2.size : Int) 0) || (ltI t18 0)))
def F88 (k : Nat) (t0 : Span) (t1 : ByteArray) : Option Bool :=
  (F85 k t0).bind fun t6 => (bif t6 then F130 k t1 else some default).bind fun t9 => (bif (t6 && t9) then F55 k t1 t0.mLo t0.mHi else some default).bind fun t17 => some ((t6 && t9) && t17)
def F21_l1 (t0 : Shard) : Nat → Int → Option (LR Bool Unit)
  | 0, _ => none
  | k + 1, t3 =>
    bif (ltI t3 (t0.mEntries.length : Int)) then (bif inR t3 t0.mEntries.length then ((F88 k t0.mSpan (rd t0.mEntries t3).mKey).bind fun t96 => bif (!t96) then (some (.ret false)) else (F21_l1 t0 k (IntKind.wrap .i64 (t3 + 1)))) else none) else (some (.out ()))
def F21 (k : Nat) (t0 : Shard) : Option Bool :=
  (F66 k t0.mID).bind fun t6 => (bif (!(!t6)) then F66 k t0.mEpoch else some default).bind fun t11 => (bif (!((!t6) || (!t11))) then F67 k t0.mHold else some default).bind fun t17 => (bif (!(((!t6) || (!t11)) || (!t17))) then F67 k t0.mSeen else some default).bind fun t23 => (bif (!((((!t6) || (!t11)) || (!t17)) || (!t23))) then F67 k t0.mMove else some default).bind fun t29 => (bif (!(((((!t6) || (!t11)) || (!t17)) || (!t23)) || (!t29))) then F67 k t0.mClosed else some default).bind fun t35 => bif ((((((!t6) || (!t11)) || (!t17)) || (!t23)) || (!t29)) || (!t35)) then (some false) else ((bif (!(((!eqI t0.mPhase 1) && (!eqI t0.mPhase 2)) && (!eqI t0.mPhase 3))) then F85 k t0.mSpan else some default).bind fun t54 => (bif (!((((!eqI t0.mPhase 1) && (!eqI t0.mPhase 2)) && (!eqI t0.mPhase 3)) || (!t54))) then F86 k t0.mEntries else some default).bind fun t60 => (bif (!(((((!eqI t0.mPhase 1) && (!eqI t0.mPhase 2)) && (!eqI t0.mPhase 3)) || (!t54)) || (!t60))) then F68 k t0.mMark else some default).bind fun t66 => (bif (!((((((!eqI t0.mPhase 1) && (!eqI t0.mPhase 2)) && (!eqI t0.mPhase 3)) || (!t54)) || (!t60)) || (!t66))) then F68 k t0.mTop else some default).bind fun t72 => (bif (!(((((((!eqI t0.mPhase 1) && (!eqI t0.mPhase 2)) && (!eqI t0.mPhase 3)) || (!t54)) || (!t60)) || (!t66)) || (!t72))) then F87 k t0.mDone else some default).bind fun t78 => bif ((((((((!eqI t0.mPhase 1) && (!eqI t0.mPhase 2)) && (!eqI t0.mPhase 3)) || (!t54)) || (!t60)) || (!t66)) || (!t72)) || (!t78)) then (some false) else ((F21_l1 t0 k 0).bind fun t => t.go fun _ => some true))
def F89_l2 (t0 : Shard) (t1 : Stamp) (t5 : Int) : Nat → Int → Option (LR Bool Unit)
  | 0, _ => none
  | k + 1, t6 =>
    bif inR t5 t0.mEntries.length then (bif (ltI t6 ((rd t0.mEntries t5).mChain.length : Int)) then (bif inR t5 t0.mEntries.length then (bif inR t6 (rd t0.mEntries t5).mChain.length then ((F76 k t1 (rd (rd t0.mEntries t5).mChain t6).mAt).bind fun t36 => bif t36 then (some (.ret false)) else (F89_l2 t0 t1 t5 k (IntKind.wrap .i64 (t6 + 1)))) else none) else none) else (some (.out ()))) else none
def F89_l1 (t0 : Shard) (t1 : Stamp) : Nat → Int → Option (LR Bool Unit)
  | 0, _ => none
  | k + 1, t5 =>
    bif (ltI t5 (t0.mEntries.length : Int)) then ((F89_l2 t0 t1 t5 k 0).bind fun t => t.go' .ret fun _ => F89_l1 t0 t1 k (IntKind.wrap .i64 (t5 + 1))) else (some (.out ()))
def F89 (k : Nat) (t0 : Shard) (t1 : Stamp) : Option Bool :=
  (F89_l1 t0 t1 k 0).bind fun t => t.go fun _ => some true
def F22_l1 (t0 : Cell) : Nat → Int → Option (LR Bool Unit)
  | 0, _ => none
  | k + 1, t3 =>
    bif (ltI t3 (t0.mShards.length : Int)) then (bif inR t3 t0.mShards.length then ((F21 k (rd t0.mShards t3)).bind fun t32 => bif (!(!(!t32)) || inR t3 t0.mShards.length) then ((bif (!(!t32)) then F89 k (rd t0.mShards t3) t0.mTop else some default).bind fun t42 => bif (!((!((!t32) || (!t42))) && (ltI 0 t3)) || inR (IntKind.wrap .i64 (t3 - 1)) t0.mShards.length) then (bif (!((!((!t32) || (!t42))) && (ltI 0 t3)) || inR t3 t0.mShards.length) then (bif (((!t32) || (!t42)) || ((ltI 0 t3) && (leI (rd t0.mShards t3).mID (rd t0.mShards (IntKind.wrap .i64 (t3 - 1))).mID))) then (some (.ret false)) else (F22_l1 t0 k (IntKind.wrap .i64 (t3 + 1)))) else none) else none) else none) else none) else (some (.out ()))
def F22 (k : Nat) (t0 : Cell) : Option Bool :=
  (bif (!(ltI 8 (t0.mShards.length : Int))) then F68 k t0.mTop else some default).bind fun t11 => (bif (!((ltI 8 (t0.mShards.length : Int)) || (!t11))) then F67 k t0.mDropped else some default).bind fun t17 => bif (((ltI 8 (t0.mShards.length : Int)) || (!t11)) || (!t17)) then (some false) else ((F22_l1 t0 k 0).bind fun t => t.go fun _ => some true)
def F24_l1 (t0 : Cell) (t1 : Int) : Nat → Int → Option (LR Shard Unit)
  | 0, _ => none
  | k + 1, t5 =>
    bif (ltI t5 (t0.mShards.length : Int)) then (bif inR t5 t0.mShards.length then (bif (eqI (rd t0.mShards t5).mID t1) then (bif inR t5 t0.mShards.length then (some (.ret (rd t0.mShards t5))) else none) else (F24_l1 t0 t1 k (IntKind.wrap .i64 (t5 + 1)))) else none) else (some (.out ()))
def F24 (k : Nat) (t0 : Cell) (t1 : Int) : Option Shard :=
  (F24_l1 t0 t1 k 0).bind fun t => t.go fun _ => some (⟨0, 0, (⟨(⟨#[]⟩ : ByteArray), (⟨#[]⟩ : ByteArray)⟩ : Span), 0, ([] : List Entry), (⟨0, 0, 0⟩ : Stamp), (⟨0, 0, 0⟩ : Stamp), ([] : List Done), 0, 0, 0, 0⟩ : Shard)
def F71_l1 (t0 : List Version) (t1 : Stamp) : Nat → (Bool × Int × Int × Int × Int × Bool × ByteArray) → Option (Bool × Int × Int × Int × Bool × ByteArray)
  | 0, _ => none
  | k + 1, (t7_1, t8, t6c0_1, t6c1_1, t6c2_1, t6c3_1, t6c4_1) =>
    (bif (ltI t8 (t0.length : Int)) then F131 k t0 else some default).bind fun t16 => bif ((ltI t8 (t0.length : Int)) && t16) then (bif inR t8 t0.length then ((F76 k t1 (rd t0 t8).mAt).bind fun t26 => bif (!t26) then (bif inR t8 t0.length then (F71_l1 t0 t1 k (true, (IntKind.wrap .i64 (t8 + 1)), (rd t0 t8).mAt.mWall, (rd t0 t8).mAt.mTick, (rd t0 t8).mAt.mNode, (rd t0 t8).mGone, (rd t0 t8).mValue)) else none) else (F71_l1 t0 t1 k (t7_1, (IntKind.wrap .i64 (t8 + 1)), t6c0_1, t6c1_1, t6c2_1, t6c3_1, t6c4_1))) else none) else (some (t7_1, t6c0_1, t6c1_1, t6c2_1, t6c3_1, t6c4_1))
def F71 (k : Nat) (t0 : List Version) (t1 : Stamp) : Option (Version × Bool) :=
  (F71_l1 t0 t1 k (false, 0, 0, 0, 0, false, (⟨#[]⟩ : ByteArray))).bind fun (t7, t6c0, t6c1, t6c2, t6c3, t6c4) => some ((⟨(⟨t6c0, t6c1, t6c2⟩ : Stamp), t6c3, t6c4⟩ : Version), t7)
def F97 (k : Nat) (t0 : Stamp) (t1 : Stamp) : Option Stamp :=
  (F76 k t0 t1).bind fun t7 => bif t7 then (some t1) else (some t0)
def F74_l1 (t0 : List Done) (t1 : Int) : Nat → Int → Option (LR Int Unit)
  | 0, _ => none
  | k + 1, t5 =>
    bif (ltI t5 (t0.length : Int)) then (bif inR t5 t0.length then (bif (eqI (rd t0 t5).mClient t1) then (bif inR t5 t0.length then (some (.ret (rd t0 t5).mReq)) else none) else (F74_l1 t0 t1 k (IntKind.wrap .i64 (t5 + 1)))) else none) else (some (.out ()))
def F74 (k : Nat) (t0 : List Done) (t1 : Int) : Option Int :=
  (F74_l1 t0 t1 k 0).bind fun t => t.go fun _ => some 0
def F135_l2 (t0 : List Done) (t3 : List Done) : Nat → (Int × Int) → Option Int
  | 0, _ => none
  | k + 1, (t4_1, t5) =>
    bif (ltI t5 (t0.length : Int)) then (bif (!(!(eqI (t3.length : Int) 0)) || inR t5 t0.length) then (bif (!(!(eqI (t3.length : Int) 0)) || inR (IntKind.wrap .i64 ((t3.length : Int) - 1)) t3.length) then (bif (!(((eqI (t3.length : Int) 0) || (ltI (rd t3 (IntKind.wrap .i64 ((t3.length : Int) - 1))).mClient (rd t0 t5).mClient)) && (!(ltI t4_1 0))) || inR t5 t0.length) then (bif (!(((eqI (t3.length : Int) 0) || (ltI (rd t3 (IntKind.wrap .i64 ((t3.length : Int) - 1))).mClient (rd t0 t5).mClient)) && (!(ltI t4_1 0))) || inR t4_1 t0.length) then (bif (((eqI (t3.length : Int) 0) || (ltI (rd t3 (IntKind.wrap .i64 ((t3.length : Int) - 1))).mClient (rd t0 t5).mClient)) && ((ltI t4_1 0) || (ltI (rd t0 t5).mClient (rd t0 t4_1).mClient))) then (F135_l2 t0 t3 k (t5, (IntKind.wrap .i64 (t5 + 1)))) else (F135_l2 t0 t3 k (t4_1, (IntKind.wrap .i64 (t5 + 1))))) else none) else none) else none) else none) else (some t4_1)
def F135_l1 (t0 : List Done) : Nat → (List Done) → Option (List Done)
  | 0, _ => none
  | k + 1, t3 =>
    (F135_l2 t0 t3 k ((-1), 0)).bind fun t4 => bif (ltI t4 0) then (some t3) else (bif inR t4 t0.length then (bif appOK 120 t3.length ([(rd t0 t4)]).length then (F135_l1 t0 k (t3 ++ [(rd t0 t4)])) else none) else none)
def F135 (k : Nat) (t0 : List Done) : Option (List Done) :=
  F135_l1 t0 k ([])
def F79_l1 (t0 : Cell) (t1 : Shard) : Nat → ((List Shard) × Bool × Int) → Option ((List Shard) × Bool)
  | 0, _ => none
  | k + 1, (t7_1, t8_1, t9) =>
    bif (ltI t9 (t0.mShards.length : Int)) then ((bif (!(!t8_1) || inR t9 t0.mShards.length) then (bif ((!t8_1) && (leI t1.mID (rd t0.mShards t9).mID)) then (bif appOK 184 t7_1.length ([t1]).length then (some ((t7_1 ++ [t1]), true)) else none) else (some (t7_1, t8_1))) else none).bind fun (t7_2, t8_2) => bif inR t9 t0.mShards.length then (bif (!eqI (rd t0.mShards t9).mID t1.mID) then (bif inR t9 t0.mShards.length then (bif appOK 184 t7_2.length ([(rd t0.mShards t9)]).length then (F79_l1 t0 t1 k ((t7_2 ++ [(rd t0.mShards t9)]), t8_2, (IntKind.wrap .i64 (t9 + 1)))) else none) else none) else (F79_l1 t0 t1 k (t7_2, t8_2, (IntKind.wrap .i64 (t9 + 1))))) else none) else (some (t7_1, t8_1))
def F79 (k : Nat) (t0 : Cell) (t1 : Shard) (t2 : Bool) : Option Cell :=
  (F79_l1 t0 t1 k ([], t2, 0)).bind fun (t7, t8) => bif (!t8) then (bif appOK 184 t7.length ([t1]).length then (some ({t0 with mShards := (t7 ++ [t1])})) else none) else (some ({t0 with mShards := t7}))
def F102_l1 (t0 : List Version) (t1 : List Version) : Nat → Int → Option (LR Bool Unit)
  | 0, _ => none
  | k + 1, t5 =>
    bif (ltI t5 (t0.length : Int)) then (bif inR t5 t0.length then (bif inR t5 t1.length then (bif (!(qVersion (rd t0 t5) (rd t1 t5))) then (some (.ret false)) else (F102_l1 t0 t1 k (IntKind.wrap .i64 (t5 + 1)))) else none) else none) else (some (.out ()))
def F102 (k : Nat) (t0 : List Version) (t1 : List Version) : Option Bool :=
  bif (!eqI (t0.length : Int) (t1.length : Int)) then (some false) else ((F102_l1 t0 t1 k 0).bind fun t => t.go fun _ => some true)
def F40_l1 (t0 : List Entry) (t1 : List Entry) : Nat → Int → Option (LR Bool Unit)
  | 0, _ => none
  | k + 1, t5 =>
    bif (ltI t5 (t0.length : Int)) then (bif inR t5 t0.length then (bif inR t5 t1.length then (bif (!(!(!strEq (rd t0 t5).mKey (rd t1 t5).mKey)) || inR t5 t0.length) then (bif (!(!(!strEq (rd t0 t5).mKey (rd t1 t5).mKey)) || inR t5 t1.length) then ((bif (!(!strEq (rd t0 t5).mKey (rd t1 t5).mKey)) then F102 k (rd t0 t5).mChain (rd t1 t5).mChain else some default).bind fun t39 => bif ((!strEq (rd t0 t5).mKey (rd t1 t5).mKey) || (!t39)) then (some (.ret false)) else (F40_l1 t0 t1 k (IntKind.wrap .i64 (t5 + 1)))) else none) else none) else none) else none) else (some (.out ()))
def F40 (k : Nat) (t0 : List Entry) (t1 : List Entry) : Option Bool :=
  bif (!eqI (t0.length : Int) (t1.length : Int)) then (some false) else ((F40_l1 t0 t1 k 0).bind fun t => t.go fun _ => some true)
def F19_l1 (t0 : Answer) (t1 : Answer) : Nat → Int → Option (LR Bool Unit)
  | 0, _ => none
  | k + 1, t5 =>
    bif (ltI t5 (t0.mItems.length : Int)) then (bif inR t5 t0.mItems.length then (bif inR t5 t1.mItems.length then (bif (!(qItem (rd t0.mItems t5) (rd t1.mItems t5))) then (some (.ret false)) else (F19_l1 t0 t1 k (IntKind.wrap .i64 (t5 + 1)))) else none) else none) else (some (.out ()))
def F19 (k : Nat) (t0 : Answer) (t1 : Answer) : Option Bool :=
  bif (!eqI (t0.mItems.length : Int) (t1.mItems.length : Int)) then (some false) else ((F19_l1 t0 t1 k 0).bind fun t => t.go fun _ => some ((((((eqI t0.mErr t1.mErr) && (qStamp t0.mAt t1.mAt)) && (t0.mFound == t1.mFound)) && (strEq t0.mValue t1.mValue)) && (strEq t0.mNext t1.mNext)) && (t0.mMore == t1.mMore)))
def F41_l1 (t0 : List Done) (t1 : List Done) : Nat → Int → Option (LR Bool Unit)
  | 0, _ => none
  | k + 1, t5 =>
    bif (ltI t5 (t0.length : Int)) then (bif inR t5 t0.length then (bif inR t5 t1.length then (bif (!(!(!eqI (rd t0 t5).mClient (rd t1 t5).mClient)) || inR t5 t0.length) then (bif (!(!(!eqI (rd t0 t5).mClient (rd t1 t5).mClient)) || inR t5 t1.length) then (bif (!(!((!eqI (rd t0 t5).mClient (rd t1 t5).mClient) || (!eqI (rd t0 t5).mReq (rd t1 t5).mReq))) || inR t5 t0.length) then (bif (!(!((!eqI (rd t0 t5).mClient (rd t1 t5).mClient) || (!eqI (rd t0 t5).mReq (rd t1 t5).mReq))) || inR t5 t1.length) then ((bif (!((!eqI (rd t0 t5).mClient (rd t1 t5).mClient) || (!eqI (rd t0 t5).mReq (rd t1 t5).mReq))) then F19 k (rd t0 t5).mAnswer (rd t1 t5).mAnswer else some default).bind fun t52 => bif (((!eqI (rd t0 t5).mClient (rd t1 t5).mClient) || (!eqI (rd t0 t5).mReq (rd t1 t5).mReq)) || (!t52)) then (some (.ret false)) else (F41_l1 t0 t1 k (IntKind.wrap .i64 (t5 + 1)))) else none) else none) else none) else none) else none) else none) else (some (.out ()))
def F41 (k : Nat) (t0 : List Done) (t1 : List Done) : Option Bool :=
  bif (!eqI (t0.length : Int) (t1.length : Int)) then (some false) else ((F41_l1 t0 t1 k 0).bind fun t => t.go fun _ => some true)
def F26 (k : Nat) (t0 : Shard) (t1 : Shard) : Option Bool :=
  (bif ((((eqI t0.mID t1.mID) && (eqI t0.mEpoch t1.mEpoch)) && (qSpan t0.mSpan t1.mSpan)) && (eqI t0.mPhase t1.mPhase)) then F40 k t0.mEntries t1.mEntries else some default).bind fun t36 => (bif (((((((eqI t0.mID t1.mID) && (eqI t0.mEpoch t1.mEpoch)) && (qSpan t0.mSpan t1.mSpan)) && (eqI t0.mPhase t1.mPhase)) && t36) && (qStamp t0.mMark t1.mMark)) && (qStamp t0.mTop t1.mTop)) then F41 k t0.mDone t1.mDone else some default).bind fun t57 => some ((((((((((((eqI t0.mID t1.mID) && (eqI t0.mEpoch t1.mEpoch)) && (qSpan t0.mSpan t1.mSpan)) && (eqI t0.mPhase t1.mPhase)) && t36) && (qStamp t0.mMark t1.mMark)) && (qStamp t0.mTop t1.mTop)) && t57) && (eqI t0.mHold t1.mHold)) && (eqI t0.mSeen t1.mSeen)) && (eqI t0.mMove t1.mMove)) && (eqI t0.mClosed t1.mClosed))
def F18_l1 (t0 : Cell) (t1 : Cell) : Nat → Int → Option (LR Bool Unit)
  | 0, _ => none
  | k + 1, t5 =>
    bif (ltI t5 (t0.mShards.length : Int)) then (bif inR t5 t0.mShards.length then (bif inR t5 t1.mShards.length then ((F26 k (rd t0.mShards t5) (rd t1.mShards t5)).bind fun t44 => bif (!t44) then (some (.ret false)) else (F18_l1 t0 t1 k (IntKind.wrap .i64 (t5 + 1)))) else none) else none) else (some (.out ()))
def F18 (k : Nat) (t0 : Cell) (t1 : Cell) : Option Bool :=
  bif (((!eqI (t0.mShards.length : Int) (t1.mShards.length : Int)) || (!(qStamp t0.mTop t1.mTop))) || (!eqI t0.mDropped t1.mDropped)) then (some false) else ((F18_l1 t0 t1 k 0).bind fun t => t.go fun _ => some true)
def F144 (k : Nat) (t0 : List Version) (t1 : Stamp) : Option (List Version) :=
  (F136 k t0).bind fun t7 => bif (!t7) then (some ([] : List Version)) else ((F169 k t0 t1).bind fun t11 => bif (!(ltI 0 t11) || inR (IntKind.wrap .i64 (t11 - 1)) t0.length) then (bif ((ltI 0 t11) && (!(rd t0 (IntKind.wrap .i64 (t11 - 1))).mGone)) then (bif cutOK (IntKind.wrap .i64 (t11 - 1)) (t0.length : Int) t0.length then ((F170 k (List.drop (IntKind.wrap .i64 (t11 - 1)).toNat t0)).bind fun t28 => some t28) else none) else (bif cutOK t11 (t0.length : Int) t0.length then ((F170 k (List.drop t11.toNat t0)).bind fun t28_1 => some t28_1) else none)) else none)
def F99_l1 (t0 : List Entry) (t1 : Stamp) : Nat → ((List Entry) × Int) → Option (List Entry)
  | 0, _ => none
  | k + 1, (t5_1, t14) =>
    bif (ltI t14 (t0.length : Int)) then (bif inR t14 t0.length then ((F144 k (rd t0 t14).mChain t1).bind fun t21 => bif (ltI 0 (t21.length : Int)) then (bif appOK 40 t5_1.length ([({(rd t0 t14) with mChain := t21} : Entry)]).length then (F99_l1 t0 t1 k ((t5_1 ++ [({(rd t0 t14) with mChain := t21} : Entry)]), (IntKind.wrap .i64 (t14 + 1)))) else none) else (F99_l1 t0 t1 k (t5_1, (IntKind.wrap .i64 (t14 + 1))))) else none) else (some t5_1)
def F99 (k : Nat) (t0 : List Entry) (t1 : Stamp) : Option (List Entry) :=
  (F81 k t0).bind fun t10 => bif (!t10) then (some ([] : List Entry)) else ((F99_l1 t0 t1 k ([], 0)).bind fun t5 => some t5)
def F145_l1 (t0 : List Version) (t12a : Version) (t12b : Bool) : Nat → ((List Version) × Int) → Option (List Version)
  | 0, _ => none
  | k + 1, (t7_1, t8) =>
    bif (ltI t8 (t0.length : Int)) then (bif (!t12b || inR t8 t0.length) then ((bif t12b then F76 k (rd t0 t8).mAt t12a.mAt else some default).bind fun t30 => bif (!((t12b && (!t30)) && t12a.mGone) || inR t8 t0.length) then (bif (t12b && (t30 || (t12a.mGone && (qStamp (rd t0 t8).mAt t12a.mAt)))) then (F145_l1 t0 t12a t12b k (t7_1, (IntKind.wrap .i64 (t8 + 1)))) else (bif inR t8 t0.length then (bif appOK 48 t7_1.length ([(rd t0 t8)]).length then (F145_l1 t0 t12a t12b k ((t7_1 ++ [(rd t0 t8)]), (IntKind.wrap .i64 (t8 + 1)))) else none) else none)) else none) else none) else (some t7_1)
def F145 (k : Nat) (t0 : List Version) (t1 : Stamp) : Option (List Version) :=
  (F71 k t0 t1).bind fun (t12a, t12b) => (F145_l1 t0 t12a t12b k ([], 0)).bind fun t7 => some t7
def F101_l1 (t0 : List Entry) (t1 : Stamp) : Nat → ((List Entry) × Int) → Option (List Entry)
  | 0, _ => none
  | k + 1, (t5_1, t6) =>
    bif (ltI t6 (t0.length : Int)) then (bif inR t6 t0.length then ((F145 k (rd t0 t6).mChain t1).bind fun t20 => bif (ltI 0 (t20.length : Int)) then (bif inR t6 t0.length then (bif appOK 40 t5_1.length ([({(rd t0 t6) with mChain := t20} : Entry)]).length then (F101_l1 t0 t1 k ((t5_1 ++ [({(rd t0 t6) with mChain := t20} : Entry)]), (IntKind.wrap .i64 (t6 + 1)))) else none) else none) else (F101_l1 t0 t1 k (t5_1, (IntKind.wrap .i64 (t6 + 1))))) else none) else (some t5_1)
def F101 (k : Nat) (t0 : List Entry) (t1 : Stamp) : Option (List Entry) :=
  (F101_l1 t0 t1 k ([], 0)).bind fun t5 => some t5
def F105 (k : Nat) (t0 : Cell) (t1 : Int) : Option Cell :=
  (F123 k t0 t1).bind fun (t10a, t10b) => bif t10b then ((F98o k t0.mShards).bind fun t16 => bif delOK t10a t16.length then (bif decide ((IntKind.wrap .i64 (t10a + 1)) = t10a + 1) then (some ({t0 with mShards := (List.take t10a.toNat t16 ++ List.drop (t10a.toNat + 1) t16)})) else none) else none) else (some t0)
def F106 (k : Nat) (t0 : Span) (t1 : ByteArray) : Option (Span × Span × Int) :=
  (F80 k t0).bind fun t9 => (bif (!(!t9)) then F122 k t1 else some default).bind fun t13 => bif ((!t9) || (!t13)) then (some ((⟨(⟨#[]⟩ : ByteArray), (⟨#[]⟩ : ByteArray)⟩ : Span), (⟨(⟨#[]⟩ : ByteArray), (⟨#[]⟩ : ByteArray)⟩ : Span), 1)) else ((bif (!(strEq t1 t0.mLo)) then F61 k t0 t1 else some default).bind fun t26 => bif ((strEq t1 t0.mLo) || (!t26)) then (some ((⟨(⟨#[]⟩ : ByteArray), (⟨#[]⟩ : ByteArray)⟩ : Span), (⟨(⟨#[]⟩ : ByteArray), (⟨#[]⟩ : ByteArray)⟩ : Span), 9)) else (some ({t0 with mHi := t1}, {t0 with mLo := t1}, 0)))
def F107 (k : Nat) (t0 : Shard) (t1 : Int) : Option Bool :=
  some ((((!eqI t0.mID 0) && (eqI t0.mEpoch t1)) && (eqI t0.mPhase 1)) && (eqI t0.mHold 0))
def F108 (k : Nat) (t0 : List Entry) (t1 : ByteArray) : Option ((List Entry) × (List Entry)) :=
  (F81 k t0).bind fun t9 => bif (!t9) then (some (([] : List Entry), ([] : List Entry))) else ((F148 k t0 t1).bind fun (t14a, t14b) => bif cutOK 0 t14a t0.length then ((F149 k (List.take t14a.toNat t0)).bind fun t20 => bif cutOK t14a (t0.length : Int) t0.length then ((F149 k (List.drop t14a.toNat t0)).bind fun t24 => some (t20, t24)) else none) else none)
def F48 (k : Nat) (t0 : Cell) (t1 : Int) (t2 : Int) (t3 : ByteArray) (t4 : Int) (t5 : Int) : Option (Cell × Bool) :=
  (F25 k t0).bind fun t20 => (bif (!(!t20)) then F57 k 1 ([t1, t2, t4, t5]) else some default).bind fun t28 => bif ((!t20) || (!t28)) then (some (t0, false)) else ((F60 k t0 t1).bind fun t34 => (F60 k t0 t4).bind fun t37 => bif (((((!eqI t34.mID 0) && (eqI t34.mEpoch t5)) && (strEq t34.mSpan.mHi t3)) && (!eqI t37.mID 0)) && (eqI t37.mEpoch t5)) then (some (t0, true)) else ((F106 k t34.mSpan t3).bind fun (t70a, t70b, t70c) => (F107 k t34 t2).bind fun t76 => bif ((((((!t76) || (leI t5 t2)) || (leI t5 t34.mClosed)) || (!eqI t37.mID 0)) || (eqI (t0.mShards.length : Int) 8)) || (!eqI t70c 0)) then (some (t0, false)) else ((F108 k t34.mEntries t3).bind fun (t110a, t110b) => (F95 k t0 ({t34 with mEpoch := t5, mSpan := t70a, mEntries := t110a})).bind fun t127 => (F95 k t127 ({t34 with mID := t4, mEpoch := t5, mSpan := t70b, mEntries := t110b})).bind fun t129 => some (t129, true))))
def F109 (k : Nat) (t0 : Span) (t1 : ByteArray) : Option (Span × Span × Int) :=
  (F85 k t0).bind fun t10 => (bif (!(!t10)) then F130 k t1 else some default).bind fun t14 => bif ((!t10) || (!t14)) then (some ((⟨(⟨#[]⟩ : ByteArray), (⟨#[]⟩ : ByteArray)⟩ : Span), (⟨(⟨#[]⟩ : ByteArray), (⟨#[]⟩ : ByteArray)⟩ : Span), 1)) else ((F85 k ({t0 with mHi := t1})).bind fun t28 => (bif (!(!t28)) then F85 k ({t0 with mLo := t1}) else some default).bind fun t32 => bif ((!t28) || (!t32)) then (some ((⟨(⟨#[]⟩ : ByteArray), (⟨#[]⟩ : ByteArray)⟩ : Span), (⟨(⟨#[]⟩ : ByteArray), (⟨#[]⟩ : ByteArray)⟩ : Span), 9)) else (some ({t0 with mHi := t1}, {t0 with mLo := t1}, 0)))
def F110 (k : Nat) (t0 : Shard) : Option Bool :=
  some (((ltI 0 t0.mID) && (eqI t0.mPhase 1)) && (eqI t0.mHold 0))
def F111_l1 (t0 : List Entry) (t1 : ByteArray) (t2 : Bool) : Nat → ((List Entry) × Int) → Option (List Entry)
  | 0, _ => none
  | k + 1, (t7_1, t8) =>
    bif (ltI t8 (t0.length : Int)) then (bif inR t8 t0.length then ((F119 k (rd t0 t8).mKey t1).bind fun t21 => bif ((ltI t21 0) == t2) then (bif inR t8 t0.length then (bif appOK 40 t7_1.length ([(rd t0 t8)]).length then (F111_l1 t0 t1 t2 k ((t7_1 ++ [(rd t0 t8)]), (IntKind.wrap .i64 (t8 + 1)))) else none) else none) else (F111_l1 t0 t1 t2 k (t7_1, (IntKind.wrap .i64 (t8 + 1))))) else none) else (some t7_1)
def F111 (k : Nat) (t0 : List Entry) (t1 : ByteArray) (t2 : Bool) : Option (List Entry) :=
  (F111_l1 t0 t1 t2 k ([], 0)).bind fun t7 => some t7
def F49 (k : Nat) (t0 : Cell) (t1 : Int) (t2 : Int) (t3 : ByteArray) (t4 : Int) (t5 : Int) : Option (Cell × Bool) :=
  (F22 k t0).bind fun t20 => (bif (!(!t20)) then F66 k t1 else some default).bind fun t24 => (bif (!((!t20) || (!t24))) then F66 k t2 else some default).bind fun t29 => (bif (!(((!t20) || (!t24)) || (!t29))) then F66 k t4 else some default).bind fun t34 => (bif (!((((!t20) || (!t24)) || (!t29)) || (!t34))) then F66 k t5 else some default).bind fun t39 => bif (((((!t20) || (!t24)) || (!t29)) || (!t34)) || (!t39)) then (some (t0, false)) else ((F24 k t0 t1).bind fun t45 => (F24 k t0 t4).bind fun t48 => bif (((((ltI 0 t45.mID) && (ltI 0 t48.mID)) && (eqI t45.mEpoch t5)) && (eqI t48.mEpoch t5)) && (strEq t45.mSpan.mHi t3)) then (some (t0, true)) else ((F109 k t45.mSpan t3).bind fun (t81a, t81b, t81c) => (F110 k t45).bind fun t86 => bif (((((((!t86) || (!eqI t45.mEpoch t2)) || (leI t5 t2)) || (leI t5 t45.mClosed)) || (ltI 0 t48.mID)) || (ltI 7 (t0.mShards.length : Int))) || (!eqI t81c 0)) then (some (t0, false)) else ((F111 k t45.mEntries t3 false).bind fun t128 => (F111 k t45.mEntries t3 true).bind fun t138 => (F79 k t0 ({t45 with mEpoch := t5, mSpan := t81a, mEntries := t138}) false).bind fun t144 => (F79 k t144 ({t45 with mID := t4, mEpoch := t5, mSpan := t81b, mEntries := t128}) false).bind fun t146 => some (t146, true))))
def F112 (k : Nat) (t0 : Span) (t1 : Span) : Option (Span × Int) :=
  (F80 k t0).bind fun t8 => (bif (!(!t8)) then F80 k t1 else some default).bind fun t12 => bif ((!t8) || (!t12)) then (some ((⟨(⟨#[]⟩ : ByteArray), (⟨#[]⟩ : ByteArray)⟩ : Span), 1)) else (bif ((strEq t0.mHi (⟨#[]⟩ : ByteArray)) || (!strEq t0.mHi t1.mLo)) then (some ((⟨(⟨#[]⟩ : ByteArray), (⟨#[]⟩ : ByteArray)⟩ : Span), 9)) else (some ({t0 with mHi := t1.mHi}, 0)))
def F113 (k : Nat) (t0 : List Entry) (t1 : List Entry) : Option ((List Entry) × Int) :=
  (F81 k t0).bind fun t8 => (bif (!(!t8)) then F81 k t1 else some default).bind fun t12 => bif ((!t8) || (!t12)) then (some (([] : List Entry), 1)) else (bif (!((ltI 0 (t0.length : Int)) && (ltI 0 (t1.length : Int))) || inR (IntKind.wrap .i64 ((t0.length : Int) - 1)) t0.length) then (bif (!((ltI 0 (t0.length : Int)) && (ltI 0 (t1.length : Int))) || inR 0 t1.length) then ((bif ((ltI 0 (t0.length : Int)) && (ltI 0 (t1.length : Int))) then F124 k (rd t0 (IntKind.wrap .i64 ((t0.length : Int) - 1))).mKey (rd t1 0).mKey else some default).bind fun t36 => bif (((ltI 0 (t0.length : Int)) && (ltI 0 (t1.length : Int))) && (leI 0 t36)) then (some (([] : List Entry), 9)) else (bnd ((ltI 64 (IntKind.wrap .i64 ((t0.length : Int) + (t1.length : Int))))) fun t45 => bif t45 then (some (([] : List Entry), 6)) else ((F149o k t0).bind fun t47 => (F149 k t1).bind fun t49 => bif appOK 40 t47.length t49.length then (some ((t47 ++ t49), 0)) else none))) else none) else none)
def F114_l1 : Nat → ((List Done) × (List Done) × (List Done)) → Option (List Done)
  | 0, _ => none
  | k + 1, (t0_1, t1_1, t6_1) =>
    bif ((ltI 0 (t0_1.length : Int)) || (ltI 0 (t1_1.length : Int))) then (bif (!((!(eqI (t1_1.length : Int) 0)) && (ltI 0 (t0_1.length : Int))) || inR 0 t0_1.length) then (bif (!((!(eqI (t1_1.length : Int) 0)) && (ltI 0 (t0_1.length : Int))) || inR 0 t1_1.length) then (bif ((eqI (t1_1.length : Int) 0) || ((ltI 0 (t0_1.length : Int)) && (ltI (rd t0_1 0).mClient (rd t1_1 0).mClient))) then (bif inR 0 t0_1.length then (bif appOK 120 t6_1.length ([(rd t0_1 0)]).length then (bif cutOK 1 (t0_1.length : Int) t0_1.length then (F114_l1 k ((List.drop (1 : Int).toNat t0_1), t1_1, (t6_1 ++ [(rd t0_1 0)]))) else none) else none) else none) else (bif (!(!(eqI (t0_1.length : Int) 0)) || inR 0 t1_1.length) then (bif (!(!(eqI (t0_1.length : Int) 0)) || inR 0 t0_1.length) then (bif ((eqI (t0_1.length : Int) 0) || (ltI (rd t1_1 0).mClient (rd t0_1 0).mClient)) then (bif inR 0 t1_1.length then (bif appOK 120 t6_1.length ([(rd t1_1 0)]).length then (bif cutOK 1 (t1_1.length : Int) t1_1.length then (F114_l1 k (t0_1, (List.drop (1 : Int).toNat t1_1), (t6_1 ++ [(rd t1_1 0)]))) else none) else none) else none) else (bif inR 0 t0_1.length then (bif inR 0 t1_1.length then (bif (leI (rd t1_1 0).mReq (rd t0_1 0).mReq) then (bif inR 0 t0_1.length then (bif appOK 120 t6_1.length ([(rd t0_1 0)]).length then (bif cutOK 1 (t0_1.length : Int) t0_1.length then (bif cutOK 1 (t1_1.length : Int) t1_1.length then (F114_l1 k ((List.drop (1 : Int).toNat t0_1), (List.drop (1 : Int).toNat t1_1), (t6_1 ++ [(rd t0_1 0)]))) else none) else none) else none) else none) else (bif inR 0 t1_1.length then (bif appOK 120 t6_1.length ([(rd t1_1 0)]).length then (bif cutOK 1 (t0_1.length : Int) t0_1.length then (bif cutOK 1 (t1_1.length : Int) t1_1.length then (F114_l1 k ((List.drop (1 : Int).toNat t0_1), (List.drop (1 : Int).toNat t1_1), (t6_1 ++ [(rd t1_1 0)]))) else none) else none) else none) else none)) else none) else none)) else none) else none)) else none) else none) else (some t6_1)
def F114 (k : Nat) (t0 : List Done) (t1 : List Done) : Option ((List Done) × Int) :=
  (F82 k t0).bind fun t8 => (bif (!(!t8)) then F82 k t1 else some default).bind fun t12 => bif ((!t8) || (!t12)) then (some (([] : List Done), 1)) else ((F114_l1 k (t0, t1, [])).bind fun t6 => bif (ltI 8 (t6.length : Int)) then (some (([] : List Done), 6)) else (some (t6, 0)))
def F50 (k : Nat) (t0 : Cell) (t1 : Int) (t2 : Int) (t3 : Int) (t4 : Int) : Option (Cell × Bool) :=
  (F25 k t0).bind fun t21 => (bif (!(!t21)) then F57 k 1 ([t1, t2, t3, t4]) else some default).bind fun t29 => bif ((!t21) || (!t29)) then (some (t0, false)) else ((F60 k t0 t1).bind fun t35 => (F60 k t0 t2).bind fun t38 => bif (((!eqI t35.mID 0) && (eqI t35.mEpoch t4)) && (eqI t38.mID 0)) then (some (t0, true)) else ((F107 k t35 t3).bind fun t56 => (bif (!(!t56)) then F107 k t38 t38.mEpoch else some default).bind fun t62 => bif (((((!t56) || (!t62)) || (leI t4 t35.mEpoch)) || (leI t4 t38.mEpoch)) || (leI t4 t35.mClosed)) then (some (t0, false)) else ((F112 k t35.mSpan t38.mSpan).bind fun (t89a, t89b) => (F113 k t35.mEntries t38.mEntries).bind fun (t97a, t97b) => (F114 k t35.mDone t38.mDone).bind fun (t105a, t105b) => bif (((!eqI t89b 0) || (!eqI t97b 0)) || (!eqI t105b 0)) then (some (t0, false)) else ((F37 k t35.mMark t38.mMark).bind fun t130 => (F99 k t97a t130).bind fun t135 => (F95 k t0 (⟨t35.mID, t4, t89a, t35.mPhase, t135, t130, t35.mTop, t105a, t35.mHold, (maxI t35.mSeen t38.mSeen), 0, (maxI t35.mClosed t38.mClosed)⟩ : Shard)).bind fun t151 => (F105 k t151 t2).bind fun t153 => some (t153, true)))))
def F115 (k : Nat) (t0 : Span) (t1 : Span) : Option (Span × Int) :=
  (F85 k t0).bind fun t7 => (bif (!(!t7)) then F85 k t1 else some default).bind fun t11 => bif ((!t7) || (!t11)) then (some ((⟨(⟨#[]⟩ : ByteArray), (⟨#[]⟩ : ByteArray)⟩ : Span), 1)) else (bif ((eqI (t0.mHi.size : Int) 0) || (!strEq t0.mHi t1.mLo)) then (some ((⟨(⟨#[]⟩ : ByteArray), (⟨#[]⟩ : ByteArray)⟩ : Span), 9)) else (some ({t0 with mHi := t1.mHi}, 0)))
def F116_l2 (t0 : List Entry) (t1 : List Entry) (t6 : Int) : Nat → Int → Option (LR ((List Entry) × Int) Unit)
  | 0, _ => none
  | k + 1, t7 =>
    bif (ltI t7 (t1.length : Int)) then (bif inR t6 t0.length then (bif inR t7 t1.length then ((F119 k (rd t0 t6).mKey (rd t1 t7).mKey).bind fun t39 => bif (leI 0 t39) then (some (.ret (([] : List Entry), 9))) else (F116_l2 t0 t1 t6 k (IntKind.wrap .i64 (t7 + 1)))) else none) else none) else (some (.out ()))
def F116_l1 (t0 : List Entry) (t1 : List Entry) : Nat → Int → Option (LR ((List Entry) × Int) Unit)
  | 0, _ => none
  | k + 1, t6 =>
    bif (ltI t6 (t0.length : Int)) then ((F116_l2 t0 t1 t6 k 0).bind fun t => t.go' .ret fun _ => F116_l1 t0 t1 k (IntKind.wrap .i64 (t6 + 1))) else (some (.out ()))
def F116 (k : Nat) (t0 : List Entry) (t1 : List Entry) : Option ((List Entry) × Int) :=
  (F86 k t0).bind fun t10 => (bif (!(!t10)) then F86 k t1 else some default).bind fun t14 => bif ((!t10) || (!t14)) then (some (([] : List Entry), 1)) else ((F116_l1 t0 t1 k 0).bind fun t => t.go fun _ => bnd ((ltI 64 (IntKind.wrap .i64 ((t0.length : Int) + (t1.length : Int))))) fun t46 => bif t46 then (some (([] : List Entry), 6)) else (bif appOK 40 ([] : List Entry).length t0.length then (bif appOK 40 (([] : List Entry) ++ t0).length t1.length then (some (((([] : List Entry) ++ t0) ++ t1), 0)) else none) else none))
def F117_l1 (t0 : List Done) (t1 : List Done) : Nat → ((List Done) × Int) → Option (List Done)
  | 0, _ => none
  | k + 1, (t6_1, t7) =>
    bif (ltI t7 (t0.length : Int)) then (bif inR t7 t0.length then ((F74 k t1 (rd t0 t7).mClient).bind fun t29 => bif inR t7 t0.length then (bif (leI t29 (rd t0 t7).mReq) then (bif inR t7 t0.length then (bif appOK 120 t6_1.length ([(rd t0 t7)]).length then (F117_l1 t0 t1 k ((t6_1 ++ [(rd t0 t7)]), (IntKind.wrap .i64 (t7 + 1)))) else none) else none) else (F117_l1 t0 t1 k (t6_1, (IntKind.wrap .i64 (t7 + 1))))) else none) else none) else (some t6_1)
def F117_l2 (t0 : List Done) (t1 : List Done) : Nat → ((List Done) × Int) → Option (List Done)
  | 0, _ => none
  | k + 1, (t6_3, t8) =>
    bif (ltI t8 (t1.length : Int)) then (bif inR t8 t1.length then ((F74 k t0 (rd t1 t8).mClient).bind fun t55 => bif inR t8 t1.length then (bif (ltI t55 (rd t1 t8).mReq) then (bif inR t8 t1.length then (bif appOK 120 t6_3.length ([(rd t1 t8)]).length then (F117_l2 t0 t1 k ((t6_3 ++ [(rd t1 t8)]), (IntKind.wrap .i64 (t8 + 1)))) else none) else none) else (F117_l2 t0 t1 k (t6_3, (IntKind.wrap .i64 (t8 + 1))))) else none) else none) else (some t6_3)
def F117 (k : Nat) (t0 : List Done) (t1 : List Done) : Option ((List Done) × Int) :=
  (F87 k t0).bind fun t10 => (bif (!(!t10)) then F87 k t1 else some default).bind fun t14 => bif ((!t10) || (!t14)) then (some (([] : List Done), 1)) else ((F117_l1 t0 t1 k ([], 0)).bind fun t6 => (F117_l2 t0 t1 k (t6, 0)).bind fun t6_2 => bif (ltI 8 (t6_2.length : Int)) then (some (([] : List Done), 6)) else ((F135 k t6_2).bind fun t73 => some (t73, 0)))
def F51 (k : Nat) (t0 : Cell) (t1 : Int) (t2 : Int) (t3 : Int) (t4 : Int) : Option (Cell × Bool) :=
  (F22 k t0).bind fun t21 => (bif (!(!t21)) then F66 k t1 else some default).bind fun t25 => (bif (!((!t21) || (!t25))) then F66 k t2 else some default).bind fun t30 => (bif (!(((!t21) || (!t25)) || (!t30))) then F66 k t3 else some default).bind fun t35 => (bif (!((((!t21) || (!t25)) || (!t30)) || (!t35))) then F66 k t4 else some default).bind fun t40 => bif (((((!t21) || (!t25)) || (!t30)) || (!t35)) || (!t40)) then (some (t0, false)) else ((F24 k t0 t1).bind fun t46 => (F24 k t0 t2).bind fun t49 => bif (((ltI 0 t46.mID) && (eqI t46.mEpoch t4)) && (eqI t49.mID 0)) then (some (t0, true)) else ((F110 k t46).bind fun t66 => (bif (!(!t66)) then F110 k t49 else some default).bind fun t70 => bif ((((((!t66) || (!t70)) || (!eqI t46.mEpoch t3)) || (leI t4 t46.mEpoch)) || (leI t4 t49.mEpoch)) || (leI t4 t46.mClosed)) then (some (t0, false)) else ((F115 k t46.mSpan t49.mSpan).bind fun (t103a, t103b) => (F116 k t46.mEntries t49.mEntries).bind fun (t111a, t111b) => (F117 k t46.mDone t49.mDone).bind fun (t119a, t119b) => bnd ((IntKind.wrap .i64 ((IntKind.wrap .i64 (t103b + t111b)) + t119b))) fun t126 => bif (!eqI t126 0) then (some (t0, false)) else ((F97 k t46.mMark t49.mMark).bind fun t133 => (F101 k t111a t133).bind fun t141 => (bif (ltI t46.mSeen t49.mSeen) then (some t49.mSeen) else (some t46.mSeen)).bind fun t12c14 => bif (ltI t46.mClosed t49.mClosed) then ((F79 k t0 t49 true).bind fun t165 => (F79 k t165 (⟨t46.mID, t4, t103a, t46.mPhase, t141, t133, t46.mTop, t119a, t46.mHold, t12c14, 0, t49.mClosed⟩ : Shard) false).bind fun t167 => some (t167, true)) else ((F79 k t0 t49 true).bind fun t165_1 => (F79 k t165_1 (⟨t46.mID, t4, t103a, t46.mPhase, t141, t133, t46.mTop, t119a, t46.mHold, t12c14, 0, t46.mClosed⟩ : Shard) false).bind fun t167_1 => some (t167_1, true))))))
def F10 (k : Nat) (t0 : Cell) (t1 : Int) (t2 : Int) (t3 : ByteArray) (t4 : Int) (t5 : Int) : Option Bool :=
  (F14 k t0).bind fun t22 => bif ((!t22) || (ltI 100 (t3.size : Int))) then ((F15 k).bind fun t29 => some t29) else ((F48 k t0 t1 t2 t3 t4 t5).bind fun (t37a, t37b) => (F49 k t0 t1 t2 t3 t4 t5).bind fun (t47a, t47b) => (F50 k t0 t1 t4 t2 t5).bind fun (t56a, t56b) => (F51 k t0 t1 t4 t2 t5).bind fun (t65a, t65b) => (F18 k t37a t47a).bind fun t70 => (bif (t70 && (t37b == t47b)) then F18 k t56a t65a else some default).bind fun t79 => (bif (((t70 && (t37b == t47b)) && t79) && (t56b == t65b)) then F15 k else some default).bind fun t87 => some ((((t70 && (t37b == t47b)) && t79) && (t56b == t65b)) && t87))
end Go.Proofs.Gd
