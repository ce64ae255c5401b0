/- Bytes as a string; rows made of a length. No program in sight. -/
import Derived.Test.YthhpelmjnmlgjaaGreatDoorAwpQ
import Derived.Laws.BytesString
set_option linter.unusedSimpArgs false
set_option linter.unusedVariables false
namespace Go.Awp
open Go.RowKit

/-- The string of some bytes. -/
def ofB (l : List Int) : ByteArray := l.foldl (fun r n => r.push (UInt8.ofNat n.toNat)) ByteArray.empty
def mkOK (bytes : Nat) (n : Int) : Bool := decide (0 ≤ n ∧ (bytes : Int) * n ≤ 281474976710656 ∧ n ≤ 9223372036854775807)

section
variable {P : Program} {ops : Array Oper} {G : Call0} {o : Oper} {m : St}

theorem w_b2s {d S T e : TypeId} {x : Operand} {X : V} {ls : List Loc} (l : List Int) (hop : o.op = .convert S T x) (hg : GOn ops o m) (hdst : o.dst = some d) (hd : d < G.nt)
    (hS : P.underlying S = some (.slice e)) (he : P.underlying e = some (.int .u8)) (hT : P.underlying T = some .string) (hx : evO m x = X) (hs : SrcL m 1 (eI .u8) l X ls) :
    Valid P ops G o m ⟨gloc ops o ++ (lo x ++ ls), [(.t d, .d (.s (.string (ofB l))))]⟩ :=
  valid_pure hg hdst hd fun m' hm φ a w hr => by
    have hx' := hr.ev' (x := x) (fun l hl => hm l (by simp [hl])) hx
    have hs' : Src m' 1 (l.map (eI .u8)) X ls := by
      cases hs with
      | d => exact .d
      | own id fz e h => exact .own id _ fz e (by rw [hm _ (by simp)]; exact h) (by simp)
    refine ⟨_, ?_, .d (.s _)⟩
    rcases src_of hr hs' ((encI .u8).lens l) hx' ((encI .u8).ones l) with ⟨n1, n2⟩ | ⟨ad, cp, news, n1, n2, n3, n4, n5⟩
    · have : l = [] := by simpa using n2
      subst this
      simp [execOp, hop, n1, run_convert_bytes_string w S T e _ _ _ hS he hT, Conv.bytesToString, ofB]
    · have hnews : news = l.map (Value.int .u8) := by
        apply List.ext_getElem?
        intro j
        by_cases hj : j < l.length
        · obtain ⟨u, hu1, hu2⟩ := n5 j 0 (eI .u8 l[j]) (.s (.int .u8 l[j])) (by rw [List.getElem?_map, List.getElem?_eq_getElem hj]; rfl) rfl
          rw [Nat.mul_one, Nat.add_zero] at hu1
          rw [hu1, List.getElem?_map, List.getElem?_eq_getElem hj]
          cases hu2; rfl
        · rw [List.getElem?_eq_none (by rw [n2]; simp; omega), List.getElem?_eq_none (by simp; omega)]
      have hld := run_loadCells_list (P := P) w ad news n3
      rw [n2, Nat.mul_one, hnews] at hld
      have := run_bytesToString (P := P) w ad (l.map (eI .u8)).length cp l hld
      simp only [execOp, hop, n1, Sem.run_bind, run_convert_bytes_string w S T e _ _ _ hS he hT, this, Result.andThen_ok, Sem.run_pure]
      rfl

theorem w_make {α : Type} {d T e k bytes : Nat} {x y : Operand} {kl kc : IntKind} (id : Nat) (n : Int) (z0 : α) (f : α → List D) (z : Value) (hop : o.op = .makeSlice T x y) (hg : GOn ops o m) (hdst : o.dst = some d) (hd : d < G.nt)
    (hT : SliceT P T e k) (hinfo : (P.info? e).map (fun i => (i.zero, i.size, i.bytes)) = some (some z, k, bytes)) (hf : EncT f k) (hk : 0 < k) (hzs : z.cells.size = k) (hx : evO m x = .d (.s (.int kl n))) (hy : evO m y = .d (.s (.int kc n)))
    (hz : ∀ (j : Nat) (d : D), (f z0)[j]? = some d → ∃ v, z.cells[j]? = some v ∧ (d = .s v ∨ zeroFits v (.d d) = true)) (hid : m (.b id) = .nob) (hok : mkOK bytes n = true) :
    Valid P ops G o m ⟨gloc ops o ++ (lo x ++ (lo y ++ [.b id])), [(.b id, .row false e k ((List.replicate n.toNat z0).map f)), (.t d, .own id k (List.replicate n.toNat z0).length)]⟩ :=
  valid_of hg (fun l hl => by simp [hl]) fun m' hm φ a w hr => by
    obtain ⟨h0, h1, h2⟩ := of_decide_eq_true hok
    have e1 := hr.s (x := x) (fun l hl => hm l (by simp [hl])) hx
    have e2 := hr.s (x := y) (fun l hl => hm l (by simp [hl])) hy
    cases hi : P.info? e with
    | none => rw [hi] at hinfo; simp at hinfo
    | some i =>
      rw [hi] at hinfo
      simp only [Option.map_some, Option.some.injEq, Prod.mk.injEq] at hinfo
      obtain ⟨i1, i2, i3⟩ := hinfo
      have hrun := run_make (P := P) w T e i z hT.und hi i1 kl kc n n h0 (Int.le_refl _) (by rw [i3]; exact h1) h2
      refine ⟨_, _, by simp only [execOp, hop, e1, e2, Sem.run_bind, hrun, Result.andThen_ok, Sem.run_pure]; rfl, updPhi φ id (some (w.heap.size, n.toNat)), ?_⟩
      rw [hdst]
      have hsz : (madeCells z.cells (n.toNat * i.size)).size = n.toNat * k := by rw [size_madeCells, i2]
      have := hr.newRow id n.toNat k (by rw [hm _ (by simp)]; exact hid) (madeCells z.cells (n.toNat * i.size)) e ((List.replicate n.toNat z0).map f) hsz (by simp) (by simp only [maxCap]; omega) (fun x ds hx => by
        rw [List.getElem?_map, Option.map_eq_some_iff] at hx
        obtain ⟨y, hy, rfl⟩ := hx
        have hlt : x < n.toNat := by have := (List.getElem?_eq_some_iff.1 hy).1; simpa using this
        have hyz : y = z0 := by rw [List.getElem?_replicate, if_pos hlt] at hy; simpa using hy.symm
        subst hyz
        refine ⟨hf.len y, fun j d hj => ?_⟩
        obtain ⟨v, hv1, hv2⟩ := hz j d hj
        have hjk : j < k := by rw [← hf.len y]; exact (List.getElem?_eq_some_iff.1 hj).1
        refine ⟨v, ?_, ?_⟩
        · have hb : x * k + j < n.toNat * i.size := by
            have h3 : x * k + k ≤ n.toNat * k := by rw [← Nat.succ_mul]; exact Nat.mul_le_mul_right k hlt
            rw [i2]; omega
          have hmod : (x * k + j) % z.cells.size = j := by rw [hzs, Nat.mul_comm, Nat.mul_add_mod]; exact Nat.mod_eq_of_lt hjk
          have hjz : j < z.cells.size := by omega
          simp [madeCells, hb, hmod, hjz]
          have := hv1
          rw [Array.getElem?_eq_getElem hjz] at this
          simpa using this
        · rcases hv2 with h | h
          · rw [h]; exact .s v
          · unfold zeroFits at h
            split at h
            · rename_i e; cases e; exact .nil _
            · cases h)
      have hln : (List.replicate n.toNat z0).length = n.toNat := List.length_replicate
      rw [hln]
      exact this.put d hd (.own id k n.toNat w.heap.size n.toNat (updPhi_self _ _ _) (Nat.le_refl _))
end
end Go.Awp
