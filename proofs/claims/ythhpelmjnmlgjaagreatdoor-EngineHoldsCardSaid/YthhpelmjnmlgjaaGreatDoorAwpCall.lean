/- Append, calls by contract, what is known of a whole call; steps that only tell a thing otherwise. No program in sight. -/
import Derived.Test.YthhpelmjnmlgjaaGreatDoorAwpMake2
set_option linter.unusedSimpArgs false
set_option linter.unusedVariables false
namespace Go.Awp
open Go.RowKit

section
variable {P : Program} {ops : Array Oper} {G : Call0} {o : Oper} {m : St}

def D.one : D → Bool
  | .s v => v.oneCell'
  | .agg _ => false
  | _ => true

theorem repD_one {ok : Nat → Prop} {w : World} {v : Value} {x : D} (h : RepD ok w v x) (h1 : x.one = true) : v.oneCell' = true := by
  cases h <;> simp_all [D.one, Value.oneCell']

theorem own_inv {φ : Phi} {ok : Nat → Prop} {w : World} {v : Value} {id k n : Nat} (h : RepV φ ok w v (.own id k n)) :
    (φ id = some none ∧ v = .slice none 0 0 ∧ n = 0) ∨ ∃ b cap, φ id = some (some (b, cap)) ∧ v = .slice (some ⟨b, 0, none⟩) n cap ∧ n ≤ cap := by
  cases h with
  | nil _ _ h => exact .inl ⟨h, rfl, rfl⟩
  | own _ _ _ b cap h hn => exact .inr ⟨b, cap, h, rfl, hn⟩

/-- What is appended: data, or a row of the call's own. -/
inductive Src (m : St) (k : Nat) (es : List (List D)) : V → List Loc → Prop
  | d : Src m k es (.d (.sl k es)) []
  | own (id n : Nat) (fz : Bool) (e : TypeId) (h : m (.b id) = .row fz e k es) (hn : n = es.length) : Src m k es (.own id k n) [.b id]

theorem src_of {φ : Phi} {a : Act} {w : World} {k : Nat} {es : List (List D)} {v : Value} {X : V} {ls : List Loc} (h : RR G φ m a w) (hs : Src m k es X ls) (hk : ∀ e ∈ es, e.length = k) (hv : RepV φ (okOf G φ m w) w v X) (h1 : ∀ e ∈ es, ∀ d ∈ e, d.one = true) :
    (v = .slice none 0 0 ∧ es = []) ∨ ∃ ad c, ∃ news : List Value, v = .slice (some ad) es.length c ∧ news.length = es.length * k ∧ (∀ (j : Nat) u, news[j]? = some u → w.cell? (ad.add j) = some u) ∧ (∀ u ∈ news, u.oneCell' = true) ∧
      ∀ (x j : Nat) (ds : List D) (d : D), es[x]? = some ds → ds[j]? = some d → ∃ u, news[x * k + j]? = some u ∧ RepD (okOf G φ m w) w u d := by
  have mk : ∀ (ad : Addr) (f : Nat → Nat → Value), (∀ (x j : Nat) (ds : List D) (d : D), es[x]? = some ds → ds[j]? = some d → w.cell? (ad.add (x * k + j)) = some (f x j) ∧ RepD (okOf G φ m w) w (f x j) d) →
      ∃ news : List Value, news.length = es.length * k ∧ (∀ (j : Nat) u, news[j]? = some u → w.cell? (ad.add j) = some u) ∧ (∀ u ∈ news, u.oneCell' = true) ∧ ∀ (x j : Nat) (ds : List D) (d : D), es[x]? = some ds → ds[j]? = some d → ∃ u, news[x * k + j]? = some u ∧ RepD (okOf G φ m w) w u d := by
    intro ad f hf
    have hg : ∀ i, i < es.length * k → ∃ ds d, es[i / k]? = some ds ∧ ds[i % k]? = some d ∧ i / k * k + i % k = i := fun i hi => by
      have hk0 : 0 < k := by rcases Nat.eq_zero_or_pos k with h | h <;> first | exact h | (subst h; simp at hi)
      have hdiv : i / k < es.length := (Nat.div_lt_iff_lt_mul hk0).2 hi
      have hl := hk es[i / k] (by simp)
      exact ⟨es[i / k], es[i / k][i % k]'(by rw [hl]; exact Nat.mod_lt _ hk0), by simp, by simp, by rw [Nat.mul_comm]; exact Nat.div_add_mod i k⟩
    refine ⟨(List.range (es.length * k)).map fun i => f (i / k) (i % k), by simp, fun j u hu => ?_, fun u hu => ?_, fun x j ds d hx hj => ?_⟩
    · rw [List.getElem?_map, Option.map_eq_some_iff] at hu
      obtain ⟨i, hi, rfl⟩ := hu
      have hij : i = j := by
        have := List.getElem?_eq_some_iff.1 hi
        obtain ⟨h1, h2⟩ := this
        simpa using h2.symm
      subst hij
      have hlt : i < es.length * k := by have := (List.getElem?_eq_some_iff.1 hi).1; simpa using this
      obtain ⟨ds, d, h1, h2, h3⟩ := hg i hlt
      have := (hf _ _ _ _ h1 h2).1
      rwa [h3] at this
    · rw [List.mem_map] at hu
      obtain ⟨i, hi, rfl⟩ := hu
      rw [List.mem_range] at hi
      obtain ⟨ds, d, g1, g2, g3⟩ := hg i hi
      exact repD_one (hf _ _ _ _ g1 g2).2 (h1 ds (List.mem_of_getElem? g1) d (List.mem_of_getElem? g2))
    · have hjk : j < k := by rw [← hk ds (List.mem_of_getElem? hx)]; exact (List.getElem?_eq_some_iff.1 hj).1
      have hxl : x < es.length := (List.getElem?_eq_some_iff.1 hx).1
      have hlt : x * k + j < es.length * k := by
        have : x * k + k ≤ es.length * k := by rw [← Nat.succ_mul]; exact Nat.mul_le_mul_right k hxl
        omega
      refine ⟨f x j, ?_, (hf _ _ _ _ hx hj).2⟩
      have e1 : (x * k + j) / k = x := by rw [Nat.mul_comm, Nat.mul_add_div (by omega), Nat.div_eq_of_lt hjk]; rfl
      have e2 : (x * k + j) % k = j := by rw [Nat.mul_comm, Nat.mul_add_mod]; exact Nat.mod_eq_of_lt hjk
      rw [List.getElem?_map, List.getElem?_range hlt, Option.map_some, e1, e2]
  cases hs with
  | d =>
    cases hv with
    | d hv =>
      cases hv with
      | nil => exact .inl ⟨rfl, rfl⟩
      | emp a cap _ hmax => exact .inr ⟨a, cap, [], rfl, by simp, fun j u h => by simp at h, fun u h => by simp at h, fun x j ds d hx => by simp at hx⟩
      | sl b off cap _ _ vs hcap hmax hb hk' hvs hc =>
        obtain ⟨news, n1, n2, n3, n4⟩ := mk ⟨b, off, none⟩ vs (fun x j ds d hx hj => ⟨by rw [Addr.add_lit, ← Nat.add_assoc]; exact hvs _ _ _ _ hx hj, hc _ _ _ _ hx hj⟩)
        exact .inr ⟨_, _, news, rfl, n1, n2, n3, n4⟩
  | own id n fz e hb hn =>
    subst hn
    rcases row_at h hb with ⟨g1, g2⟩ | ⟨b, cap, arr, g1, g2, g3, g4, g5, g6⟩
    · rcases own_inv hv with ⟨hφ, rfl, _⟩ | ⟨b, c, hφ, rfl, hle⟩
      · exact .inl ⟨rfl, g2⟩
      · rw [g1] at hφ; cases hφ
    · rcases own_inv hv with ⟨hφ, rfl, _⟩ | ⟨b', c, hφ, rfl, hle⟩
      · rw [g1] at hφ; cases hφ
      · rw [g1] at hφ
        simp only [Option.some.injEq, Prod.mk.injEq] at hφ
        obtain ⟨rfl, rfl⟩ := hφ
        obtain ⟨news, n1, n2, n3, n4⟩ := mk ⟨b, 0, none⟩ (fun x j => arr.getD (x * k + j) undef) (fun x j ds d hx hj => by
          obtain ⟨v, hv1, hv2⟩ := (g6 x ds hx).2 j d hj
          rw [Addr.add_lit, Nat.zero_add, cell_of g2, hv1, Array.getD_eq_getD_getElem?, hv1]
          exact ⟨rfl, hv2⟩)
        exact .inr ⟨_, _, news, rfl, n1, n2, n3, n4⟩

structure ElemT (P : Program) (e k bytes : Nat) : Prop where
  info : ∃ i z, P.info? e = some i ∧ i.zero = some z ∧ i.size = k ∧ i.bytes = bytes ∧ z.cells.size = k
  pos : 0 < k

theorem ElemT.mk' {e k bytes : Nat} {z : Value} (h : (P.info? e).map (fun i => (i.zero, i.size, i.bytes)) = some (some z, k, bytes)) (hz : z.cells.size = k) (hk : 0 < k) : ElemT P e k bytes := by
  refine ⟨?_, hk⟩
  cases hi : P.info? e with
  | none => rw [hi] at h; simp at h
  | some i =>
    rw [hi] at h
    simp only [Option.map_some, Option.some.injEq, Prod.mk.injEq] at h
    exact ⟨i, z, rfl, h.1, h.2.1, h.2.2, hz⟩

/-- A row of the call's own has become another, where it lies or elsewhere. -/
theorem RR.appended {φ : Phi} {a : Act} {w w' : World} {id id' k : Nat} {e : TypeId} {es es' : List (List D)} {v' : Value} (h : RR G φ m a w) (hb : m (.b id) = .row false e k es) (hid : m (.b id') = .nob) {v : Value} (hv : RepV φ (okOf G φ m w) w v (.own id k es.length))
    (hgrow : w.grownBy w' v.ownBlock) (hat : v'.ownBlock = v.ownBlock ∨ ∃ g, v'.ownBlock = some g ∧ w.heap.size ≤ g)
    (hnew : (v' = .slice none 0 0 ∧ es' = []) ∨ ∃ g cap arr, v' = .slice (some ⟨g, 0, none⟩) es'.length cap ∧ w'.heap[g]? = some (.cells arr e (0, 0)) ∧ arr.size = cap * k ∧ es'.length ≤ cap ∧ cap ≤ maxCap ∧ RowIn (okOf G φ m w) w arr k es') :
    ∃ φ', RR G φ' (upd (upd m (.b id) .spent) (.b id') (.row false e k es')) a w' ∧ (∀ i x, φ i = some x → φ' i = some x) ∧
      RepV φ' (okOf G φ' (upd (upd m (.b id) .spent) (.b id') (.row false e k es')) w') w' v' (.own id' k es'.length) := by
  have hne : id' ≠ id := fun e => by subst e; rw [hb] at hid; cases hid
  have hφid' : φ id' = none := by have := h.blk id'; unfold BlkOK at this; rw [hid] at this; exact this
  -- where the new row lies
  obtain ⟨pl, hpl⟩ : ∃ pl : Option (Nat × Nat), (v' = .slice none 0 0 ∧ es' = [] ∧ pl = none) ∨ ∃ g cap arr, pl = some (g, cap) ∧ v' = .slice (some ⟨g, 0, none⟩) es'.length cap ∧ w'.heap[g]? = some (.cells arr e (0, 0)) ∧ arr.size = cap * k ∧ es'.length ≤ cap ∧ cap ≤ maxCap ∧ RowIn (okOf G φ m w) w arr k es' := by
    rcases hnew with ⟨h1, h2⟩ | ⟨g, cap, arr, h1, h2⟩
    · exact ⟨none, .inl ⟨h1, h2, rfl⟩⟩
    · exact ⟨some (g, cap), .inr ⟨g, cap, arr, rfl, h1, h2⟩⟩
  have hold : ∀ g cap, pl = some (g, cap) → (∃ c, φ id = some (some (g, c))) ∨ w.heap.size ≤ g := fun g cap hp => by
    rcases hpl with ⟨_, _, h3⟩ | ⟨g', cap', arr, h3, h4, _⟩
    · rw [h3] at hp; cases hp
    · rw [hp] at h3
      simp only [Option.some.injEq, Prod.mk.injEq] at h3
      obtain ⟨rfl, rfl⟩ := h3
      rw [h4] at hat
      simp only [Value.ownBlock] at hat
      rcases hat with hat | hat
      · rcases own_inv hv with ⟨hφ, rfl, _⟩ | ⟨b, c, hφ, rfl, hle⟩
        · simp [Value.ownBlock] at hat
        · simp only [Value.ownBlock, Option.some.injEq] at hat
          exact .inl ⟨c, by rw [hat]; exact hφ⟩
      · obtain ⟨g2, e1, e2⟩ := hat
        simp only [Option.some.injEq] at e1
        exact .inr (by omega)
  have hblk : ∀ b, b < w.heap.size → (∀ c, φ id ≠ some (some (b, c))) → w'.heap[b]? = w.heap[b]? := fun b hb hn => by
    refine hgrow.block b hb (fun e => ?_)
    rcases own_inv hv with ⟨hφ, rfl, _⟩ | ⟨b', c, hφ, rfl, hle⟩
    · simp [Value.ownBlock] at e
    · simp only [Value.ownBlock, Option.some.injEq] at e
      subst e
      exact hn c hφ
  have hlive : (m (.b id)).live = true := by rw [hb]; rfl
  have mb : ∀ i, i ≠ id → i ≠ id' → upd (upd m (.b id) .spent) (.b id') (.row false e k es') (.b i) = m (.b i) := fun i h1 h2 => by rw [upd_b_b _ _ h2, upd_b_b _ _ h1]
  have mid : upd (upd m (.b id) .spent) (.b id') (.row false e k es') (.b id) = .spent := by rw [upd_b_b _ _ (Ne.symm hne), upd_self]
  have mid' : upd (upd m (.b id) .spent) (.b id') (.row false e k es') (.b id') = .row false e k es' := upd_self _ _ _
  have hφx : ∀ i x, φ i = some x → updPhi φ id' pl i = some x := fun i x hi => by
    rw [updPhi_ne _ _ (fun e => by subst e; rw [hφid'] at hi; cases hi)]; exact hi
  have hok : ∀ b, okOf G φ m w b → okOf G (updPhi φ id' pl) (upd (upd m (.b id) .spent) (.b id') (.row false e k es')) w' b ∧ w'.heap[b]? = w.heap[b]? := by
    rintro b ⟨h1, h2, h3⟩
    have hnid : ∀ c, φ id ≠ some (some (b, c)) := fun c hc => by rw [h3 id c hc] at hlive; cases hlive
    refine ⟨⟨h1, Nat.lt_of_lt_of_le h2 hgrow.size, fun i c hi => ?_⟩, hblk b h2 hnid⟩
    by_cases e1 : i = id'
    · subst e1
      rw [updPhi_self] at hi
      simp only [Option.some.injEq] at hi
      rcases hold b c hi with ⟨c', hc'⟩ | hc'
      · exact absurd hc' (hnid c')
      · omega
    · rw [updPhi_ne _ _ e1] at hi
      by_cases e2 : i = id
      · subst e2; exact absurd hi (hnid c)
      · rw [mb i e2 e1]; exact h3 i c hi
  have hbel : Below G.w0.heap.size G.w0 w' := by
    refine h.below.trans ⟨hgrow.os, hgrow.tape, hgrow.output, hgrow.size, fun b hb' => hblk b (Nat.lt_of_lt_of_le hb' h.below.size) fun c hc => ?_⟩
    have := (h.lt id b c hc).1
    omega
  refine ⟨updPhi φ id' pl, ⟨hbel, h.nodef, h.size, fun t => ?_, fun i b c hi => ?_, fun i j b c c' hi hj hl hij => ?_, fun i => ?_⟩, hφx, ?_⟩
  · rw [upd_b_t, upd_b_t]; exact (h.slots t).mono hφx hok
  · by_cases e1 : i = id'
    · subst e1
      rw [updPhi_self] at hi
      simp only [Option.some.injEq] at hi
      have hlt : b < w'.heap.size := by
        rcases hpl with ⟨_, _, h3⟩ | ⟨g', cap', arr, h3, h4, h5, _⟩
        · rw [h3] at hi; cases hi
        · rw [h3] at hi
          simp only [Option.some.injEq, Prod.mk.injEq] at hi
          obtain ⟨rfl, rfl⟩ := hi
          exact (Array.getElem?_eq_some_iff.1 h5).1
      rcases hold b c hi with ⟨c', hc'⟩ | hc'
      · exact ⟨(h.lt id b c' hc').1, hlt⟩
      · exact ⟨Nat.le_trans h.below.size hc', hlt⟩
    · rw [updPhi_ne _ _ e1] at hi
      have := h.lt i b c hi
      exact ⟨this.1, Nat.lt_of_lt_of_le this.2 hgrow.size⟩
  · by_cases e1 : i = id'
    · subst e1
      rw [updPhi_self] at hi
      simp only [Option.some.injEq] at hi
      rw [updPhi_ne _ _ (Ne.symm hij)] at hj
      rcases hold b c hi with ⟨c2, hc2⟩ | hc2
      · by_cases e2 : j = id
        · subst e2; exact mid
        · rw [mb j e2 (Ne.symm hij)]
          exact h.inj id j b c2 c' hc2 hj hlive (Ne.symm e2)
      · have := (h.lt j b c' hj).2; omega
    · rw [updPhi_ne _ _ e1] at hi
      by_cases ei : i = id
      · subst ei; rw [mid] at hl; cases hl
      · rw [mb i ei e1] at hl
        by_cases e2 : j = id'
        · subst e2
          rw [updPhi_self] at hj
          simp only [Option.some.injEq] at hj
          rcases hold b c' hj with ⟨c2, hc2⟩ | hc2
          · have := h.inj id i b c2 c hc2 hi hlive (Ne.symm ei)
            rw [this] at hl; cases hl
          · have := (h.lt i b c hi).2; omega
        · rw [updPhi_ne _ _ e2] at hj
          by_cases e3 : j = id
          · subst e3; exact mid
          · rw [mb j e3 e2]; exact h.inj i j b c c' hi hj hl hij
  · by_cases e1 : i = id'
    · subst e1
      unfold BlkOK
      rw [mid']
      rcases hpl with ⟨h1, h2, h3⟩ | ⟨g, cap, arr, h3, h4, h5, h6, h7, h8, h9⟩
      · exact .inl ⟨by rw [updPhi_self, h3], h2⟩
      · refine .inr ⟨g, cap, arr, by rw [updPhi_self, h3], h5, h6, h7, h8, fun x ds hx => ⟨(h9 x ds hx).1, fun j d hj => ?_⟩⟩
        obtain ⟨u, hu1, hu2⟩ := (h9 x ds hx).2 j d hj
        exact ⟨u, hu1, hu2.mono hok⟩
    · by_cases e2 : i = id
      · subst e2
        unfold BlkOK
        rw [mid]; trivial
      · by_cases hsp : m (.b i) = .spent
        · unfold BlkOK; rw [mb i e2 e1, hsp]; trivial
        · refine blk_keep (updPhi_ne _ _ e1) hφx hok (mb i e2 e1) (fun j => by rw [upd_b_c, upd_b_c]) (fun b c hi => hblk b (h.lt i b c hi).2 fun c2 hc2 => ?_) (h.blk i)
          exact hsp (h.inj id i b c2 c hc2 hi hlive (Ne.symm e2))
  · rcases hpl with ⟨h1, h2, h3⟩ | ⟨g, cap, arr, h3, h4, h5, h6, h7, h8, h9⟩
    · rw [h1, h2]; exact .nil id' k (by rw [updPhi_self, h3])
    · rw [h4]; exact .own id' k _ g cap (by rw [updPhi_self, h3]) h7

theorem v_append {d T e k bytes id id' : Nat} {x y : Operand} {es es2 : List (List D)} {Y : V} {ls : List Loc} {c : Call} (hop : o.op = .call c) (hc : c = { callee := .builtin .append, args := #[x, y], argTypes := #[T, T] }) (hg : GOn ops o m) (hdst : o.dst = some d) (hd : d < G.nt)
    (hT : P.underlying T = some (.slice e)) (hE : ElemT P e k bytes) (hx : evO m x = .own id k es.length) (hb : m (.b id) = .row false e k es) (hy : evO m y = Y) (hs : Src m k es2 Y ls) (hid : m (.b id') = .nob)
    (hk1 : ∀ e ∈ es, e.length = k) (hk2 : ∀ e ∈ es2, e.length = k) (h1 : ∀ e ∈ es2, ∀ d ∈ e, d.one = true) (hbytes : (es.length + es2.length) * bytes ≤ 140737488355328) (hmax : es.length + es2.length ≤ maxCap) :
    Valid P ops G o m ⟨gloc ops o ++ (lo x ++ (lo y ++ (.b id :: .b id' :: ls))), [(.b id, .spent), (.b id', .row false e k (es ++ es2)), (.t d, .own id' k (es.length + es2.length))]⟩ :=
  valid_of hg (fun l hl => by simp [hl]) fun m' hm φ a w hr => by
    have hx' := hr.ev' (x := x) (fun l hl => hm l (by simp [hl])) hx
    have hy' := hr.ev' (x := y) (fun l hl => hm l (by simp [hl])) hy
    have hb' : m' (.b id) = .row false e k es := by rw [hm _ (by simp)]; exact hb
    have hid' : m' (.b id') = .nob := by rw [hm _ (by simp)]; exact hid
    have hs' : Src m' k es2 Y ls := by
      cases hs with
      | d => exact .d
      | own i n fz e h hn => exact .own i n fz e (by rw [hm _ (by simp)]; exact h) hn
    obtain ⟨i, z, i1, i2, i3, i4, i5⟩ := hE.info
    -- the row that is appended to
    obtain ⟨cur, hown, hcur⟩ : ∃ xs : List Value, w.ownsRow G.w0.heap.size e k (a.eval x) es.length xs ∧ xs.length = es.length * k ∧ ∀ (y j : Nat) (ds : List D) (d : D), es[y]? = some ds → ds[j]? = some d → ∃ u, xs[y * k + j]? = some u ∧ RepD (okOf G φ m' w) w u d := by
      rcases row_at hr hb' with ⟨g1, g2⟩ | ⟨b, cap, arr, g1, g2, g3, g4, g5, g6⟩
      · generalize a.eval x = v at hx'
        subst g2
        rcases own_inv hx' with ⟨hφ, rfl, _⟩ | ⟨b', c, hφ, rfl, hle⟩
        · exact ⟨[], ⟨by simp, .inl ⟨rfl, rfl⟩⟩, by simp, fun y j ds d hy => by simp at hy⟩
        · rw [g1] at hφ; cases hφ
      · generalize a.eval x = v at hx'
        generalize hn : es.length = n at hx' g4
        rcases own_inv hx' with ⟨hφ, rfl, _⟩ | ⟨b', c, hφ, rfl, hle⟩
        · rw [g1] at hφ; cases hφ
        · rw [g1] at hφ
          simp only [Option.some.injEq, Prod.mk.injEq] at hφ
          obtain ⟨rfl, rfl⟩ := hφ
          have hle2 : n * k ≤ arr.size := by rw [g3]; exact Nat.mul_le_mul_right k g4
          refine ⟨arr.toList.take (n * k), ⟨by simp; omega, .inr ⟨b, cap, arr, rfl, (hr.lt id b cap g1).1, g2, hle, g5, g3, rfl⟩⟩, by simp; omega, fun y j ds d hy hj => ?_⟩
          have hjk : j < k := by rw [← hk1 ds (List.mem_of_getElem? hy)]; exact (List.getElem?_eq_some_iff.1 hj).1
          have hyl : y < n := by rw [← hn]; exact (List.getElem?_eq_some_iff.1 hy).1
          have hlt : y * k + j < n * k := by
            have : y * k + k ≤ n * k := by rw [← Nat.succ_mul]; exact Nat.mul_le_mul_right k hyl
            omega
          obtain ⟨u, hu1, hu2⟩ := (g6 y ds hy).2 j d hj
          exact ⟨u, by rw [List.getElem?_take_of_lt hlt, Array.getElem?_toList]; exact hu1, hu2⟩
    have hrow : ∀ (xs : List Value) (cap : Nat) (arr : Array Value) (news : List Value), xs.length = es.length * k → arr.toList.take ((es.length + es2.length) * k) = xs ++ news →
        (∀ (y j : Nat) (ds : List D) (d : D), es[y]? = some ds → ds[j]? = some d → ∃ u, xs[y * k + j]? = some u ∧ RepD (okOf G φ m' w) w u d) →
        (∀ (y j : Nat) (ds : List D) (d : D), es2[y]? = some ds → ds[j]? = some d → ∃ u, news[y * k + j]? = some u ∧ RepD (okOf G φ m' w) w u d) → RowIn (okOf G φ m' w) w arr k (es ++ es2) := by
      intro xs cap arr news hxl harr h1 h2 y ds hy
      have hlen : ds.length = k := by
        have := List.mem_of_getElem? hy
        rw [List.mem_append] at this
        exact this.elim (hk1 ds) (hk2 ds)
      refine ⟨hlen, fun j d hj => ?_⟩
      have hjk : j < k := by rw [← hlen]; exact (List.getElem?_eq_some_iff.1 hj).1
      have hyl : y < es.length + es2.length := by have := (List.getElem?_eq_some_iff.1 hy).1; simpa using this
      have hlt : y * k + j < (es.length + es2.length) * k := by
        have : y * k + k ≤ (es.length + es2.length) * k := by rw [← Nat.succ_mul]; exact Nat.mul_le_mul_right k hyl
        omega
      have hg : arr[y * k + j]? = (xs ++ news)[y * k + j]? := by rw [← harr, List.getElem?_take_of_lt hlt, Array.getElem?_toList]
      by_cases hy1 : y < es.length
      · rw [List.getElem?_append_left hy1] at hy
        obtain ⟨u, hu1, hu2⟩ := h1 y j ds d hy hj
        refine ⟨u, ?_, hu2⟩
        rw [hg, List.getElem?_append_left (by exact (List.getElem?_eq_some_iff.1 hu1).1)]; exact hu1
      · rw [List.getElem?_append_right (by omega)] at hy
        obtain ⟨u, hu1, hu2⟩ := h2 _ j ds d hy hj
        refine ⟨u, ?_, hu2⟩
        have hge : es.length * k ≤ y * k := Nat.mul_le_mul_right k (by omega)
        rw [hg, List.getElem?_append_right (by omega), hxl, show y * k + j - es.length * k = (y - es.length) * k + j by rw [Nat.sub_mul]; omega]; exact hu1
    have hlen2 : (es ++ es2).length = es.length + es2.length := by simp
    have fin : ∀ v' w', (Builtin.append_ #[T, T] o.type #[a.eval x, a.eval y]).run P w = .ok v' w' → w.grownBy w' (a.eval x).ownBlock → (v'.ownBlock = (a.eval x).ownBlock ∨ v'.ownBlock = some w.heap.size) →
        ((v' = .slice none 0 0 ∧ (es ++ es2) = []) ∨ ∃ g cap arr, v' = .slice (some ⟨g, 0, none⟩) (es ++ es2).length cap ∧ w'.heap[g]? = some (.cells arr e (0, 0)) ∧ arr.size = cap * k ∧ (es ++ es2).length ≤ cap ∧ cap ≤ maxCap ∧ RowIn (okOf G φ m' w) w arr k (es ++ es2)) →
        ∃ v w1, (execOp a.eval o).run P w = .ok (.value v) w1 ∧ R G (updL m' [(.b id, .spent), (.b id', .row false e k (es ++ es2)), (.t d, .own id' k (es.length + es2.length))]) (a.put o.dst v) w1 := fun v' w' hrun hgrow hat hnew => by
      obtain ⟨φ', q1, q2, q3⟩ := hr.appended hb' hid' hx' hgrow (hat.imp (fun h => h) fun h => ⟨_, h, Nat.le_refl _⟩) hnew
      refine ⟨v', w', ?_, φ', ?_⟩
      · subst hc
        simp only [execOp, hop, resolve, invoke, builtin, Sem.run_bind, Sem.run_pure, Result.andThen_ok, List.map_toArray, List.map_cons, List.map_nil, hrun]
      · rw [hdst]
        rw [hlen2] at q3
        exact q1.put d hd q3
    rcases src_of hr hs' hk2 hy' h1 with ⟨n1, n2⟩ | ⟨ad, cp, news, n1, n2, n3, n4, n5⟩
    · -- nothing is appended
      subst n2
      have hrun : (Builtin.append_ #[T, T] o.type #[a.eval x, a.eval y]).run P w = .ok (a.eval x) w := by
        rw [n1]
        generalize a.eval x = v at hown hx'
        have hin : (isAgg T).run P w = (isAgg T).run P w := rfl
        have hsz0 : (sizeOf e).run P w = .ok k w := by simp [sizeOf, typeInfo, i1, i3]
        rcases own_inv hx' with ⟨hφ, rfl, _⟩ | ⟨b', c, hφ, rfl, hle⟩
        · simp [Builtin.append_, run_underlying hT, hsz0, Builtin.lenOf, Builtin.firstCells, Result.andThen]
        · simp [Builtin.append_, run_underlying hT, hsz0, Builtin.lenOf, Builtin.firstCells, hle, storeCells, Result.andThen]
      refine fin _ _ hrun ⟨rfl, rfl, rfl, Nat.le_refl _, fun _ _ _ => rfl⟩ (.inl rfl) ?_
      obtain ⟨hl, hcs⟩ := hown
      rcases hcs with ⟨c1, c2⟩ | ⟨g, cap, arr, c1, c2, c3, c4, c5, c6, c7⟩
      · exact .inl ⟨c1, by rw [List.append_nil]; exact List.eq_nil_of_length_eq_zero c2⟩
      · refine .inr ⟨g, cap, arr, by rw [c1]; simp, c3, c6, by simpa using c4, c5, ?_⟩
        exact hrow cur cap arr [] hcur.1 (by simpa using c7) hcur.2 (fun y j ds d hy => by simp at hy)
    · obtain ⟨v', w', r1, r2, r3, r4, r5⟩ := run_append_own_at (P := P) w G.w0.heap.size T o.type e i z k bytes hT i1 i2 i3 i4 i5 hE.pos (a.eval x) es.length cur hown ad es2.length cp news n2 n3 n4 hmax hbytes hr.below.size
      refine fin v' w' (by rw [n1]; exact r1) r3 r5 ?_
      obtain ⟨hl, hcs⟩ := r2
      rcases hcs with ⟨c1, c2⟩ | ⟨g, cap, arr, c1, c2, c3, c4, c5, c6, c7⟩
      · exact .inl ⟨c1, List.eq_nil_of_length_eq_zero (by rw [hlen2]; exact c2)⟩
      · exact .inr ⟨g, cap, arr, by rw [hlen2]; exact c1, c3, c6, by rw [hlen2]; exact c4, c5, hrow cur cap arr news hcur.1 c7 hcur.2 n5⟩
end
end Go.Awp
