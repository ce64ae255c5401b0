/- Records: where a field lies, how a record is put together, what one begins as, whether two are equal. No program in sight. -/
import Derived.Test.YthhpelmjnmlgjaaGreatDoorAwpNum
set_option linter.unusedSimpArgs false
set_option linter.unusedVariables false
namespace Go.Awp
open Go.RowKit

def fit1 : Value → V → Bool
  | .int k n, .d (.s (.int k' m)) => decide (k = k' ∧ n = m)
  | .bool a, .d (.s (.bool b)) => a == b
  | .string a, .d (.s (.string b)) => Nat.beq a.size 0 && Nat.beq b.size 0
  | v, c => zeroFits v c
def fitB : List Value → List V → Bool
  | [], [] => true
  | v :: vs, c :: cs => fit1 v c && fitB vs cs
  | _, _ => false

theorem fit1_ok {v : Value} {c : V} (h : fit1 v c = true) : c = .d (.s v) ∨ zeroFits v c = true := by
  unfold fit1 at h
  split at h
  · have := of_decide_eq_true h; obtain ⟨rfl, rfl⟩ := this; exact .inl rfl
  · simp at h; subst h; exact .inl rfl
  · rename_i a b
    simp only [Bool.and_eq_true, Nat.beq_eq] at h
    have ea : a = ⟨#[]⟩ := by
      apply ByteArray.ext; apply Array.eq_empty_of_size_eq_zero; exact h.1
    have eb : b = ⟨#[]⟩ := by
      apply ByteArray.ext; apply Array.eq_empty_of_size_eq_zero; exact h.2
    subst ea; subst eb; exact .inl rfl
  · exact .inr h

theorem fitB_at : ∀ {vs : List Value} {cs : List V}, fitB vs cs = true → ∀ (i : Nat) (v : Value) (c : V), vs[i]? = some v → cs[i]? = some c → c = .d (.s v) ∨ zeroFits v c = true
  | [], [], _, i, v, c, h, _ => by simp at h
  | [], _ :: _, h, _, _, _, _, _ => by simp [fitB] at h
  | _ :: _, [], h, _, _, _, _, _ => by simp [fitB] at h
  | v :: vs, c :: cs, h, 0, v', c', h1, h2 => by
    simp only [fitB, Bool.and_eq_true] at h
    simp at h1 h2; subst h1; subst h2; exact fit1_ok h.1
  | v :: vs, c :: cs, h, i + 1, v', c', h1, h2 => by
    simp only [fitB, Bool.and_eq_true] at h
    exact fitB_at h.2 i v' c' (by simpa using h1) (by simpa using h2)

theorem fit_of {z : Value} {cs : List V} (h : fitB z.cells.toList cs = true) : ∀ (i : Nat) (v : Value) (c : V), z.cells[i]? = some v → cs[i]? = some c → c = .d (.s v) ∨ zeroFits v c = true :=
  fun i v c h1 h2 => fitB_at h i v c (by rw [Array.getElem?_toList]; exact h1) h2

theorem ones_of {cs : List V} (h : cs.all V.one = true) : ∀ c ∈ cs, c.one = true := List.all_eq_true.1 h
theorem encT_of {α : Type} {f : α → List D} {k : Nat} (h : ∀ x, (f x).length = k) (h2 : ∀ x, (f x).all D.one = true) : EncT f k := ⟨h, fun x => List.all_eq_true.1 (h2 x)⟩

section
variable {P : Program} {ops : Array Oper} {G : Call0} {o : Oper} {m : St}

def fsOf (P : Program) (T : TypeId) : Option (Array Field) := match P.underlying T with
  | some (.struct fs) => some fs
  | _ => none
def offOf (P : Program) (T : TypeId) (f : Nat) : Option Nat := (fsOf P T).bind fun fs => (fs[f]?).bind fun fd => (P.info? fd.type).bind fun i => if i.size = 0 then none else some fd.offset
def plList (P : Program) : List Field → Option (List (Nat × Nat))
  | [] => some []
  | f :: r => match P.info? f.type, plList P r with
    | some i, some l => some ((f.offset, i.size) :: l)
    | _, _ => none
def plOf (P : Program) (T : TypeId) : Option (List (Nat × Nat)) := (fsOf P T).bind fun fs => plList P fs.toList

theorem fs_und {T : TypeId} {fs : Array Field} (h : fsOf P T = some fs) : P.underlying T = some (.struct fs) := by
  unfold fsOf at h
  split at h
  · rename_i e; cases h; exact e
  · cases h

theorem field_of {T f a0 : Nat} (h : offOf P T f = some a0) : ∀ w a, (Instr.fieldAt T (.pointer (some a)) f).run P w = .ok (.pointer (some (a.add a0))) w := fun w a => by
  unfold offOf at h
  cases hf : fsOf P T with
  | none => rw [hf] at h; cases h
  | some fs =>
    rw [hf] at h
    simp only [Option.bind_some] at h
    cases hg : fs[f]? with
    | none => rw [hg] at h; cases h
    | some fd =>
      rw [hg] at h
      simp only [Option.bind_some] at h
      cases hi : P.info? fd.type with
      | none => rw [hi] at h; cases h
      | some i =>
        rw [hi] at h
        simp only [Option.bind_some] at h
        split at h
        · cases h
        · rename_i hne
          simp only [Option.some.injEq] at h
          have hu := run_underlying (fs_und hf) w
          have hs : (sizeOf fd.type).run P w = .ok i.size w := by simp [sizeOf, typeInfo, hi, Result.andThen]
          have hp : (fieldPlace a fd).run P w = .ok (a.add a0) w := by
            unfold fieldPlace
            rw [Sem.run_bind, hs, Result.andThen_ok, if_neg hne, h]; rfl
          simp only [Instr.fieldAt, Sem.run_bind, hu, Result.andThen_ok, hg, Instr.sureAddr, Sem.run_pure, hp]

theorem plList_run (w : World) : ∀ (l : List Field) (r : List (Nat × Nat)), plList P l = some r → (l.mapM fun f => (do pure (f.offset, ← sizeOf f.type) : Sem (Nat × Nat))).run P w = .ok r w
  | [], r, h => by simp [plList] at h; subst h; simp
  | f :: l, r, h => by
    unfold plList at h
    split at h
    · rename_i i l' h1 h2
      cases h
      have := plList_run w l l' h2
      have hs : (do pure (f.offset, ← sizeOf f.type) : Sem (Nat × Nat)).run P w = .ok (f.offset, i.size) w := by simp [sizeOf, typeInfo, h1, Result.andThen]
      rw [List.mapM_cons, Sem.run_bind, hs, Result.andThen_ok, Sem.run_bind, this]
      rfl
    · cases h

theorem BuildT.mk2 {T : Nat} {z : Value} {pl : List (Nat × Nat)} (hz : ∀ w, (zeroValue T).run P w = .ok z w) (h : plOf P T = some pl) : BuildT P T z pl.toArray := by
  unfold plOf at h
  cases hf : fsOf P T with
  | none => rw [hf] at h; cases h
  | some fs =>
    rw [hf] at h
    refine .mk' hz (fs_und hf) fun w => ?_
    rw [Array.mapM_eq_mapM_toList]
    have := plList_run w fs.toList pl h
    rw [Sem.run_map, this]; rfl

theorem AggT.mk2 {T k : Nat} (h : (fsOf P T).isSome = true) (h2 : (P.info? T).map (·.size) = some k) : AggT P T k := by
  cases hf : fsOf P T with
  | none => rw [hf] at h; cases h
  | some fs => exact .mk' (fs_und hf) h2
theorem nc (i j : Nat) : ∀ k, Loc.c i j ≠ .b k := fun k h => nomatch h
def eL {α : Type} (k : Nat) (f : α → List D) (l : List α) : List D := [.sl k (l.map f)]
theorem encL {α : Type} (k : Nat) (f : α → List D) : EncT (eL k f) 1 := ⟨fun _ => rfl, fun x d hd => by simp [eL] at hd; subst hd; rfl⟩
theorem cc {α : Type} {a b : α} {l l' : List α} (h : a = b) (h2 : l = l') : a :: l = b :: l' := by rw [h, h2]

theorem w_ldb {d T k n : Nat} {fz : Bool} {x : Operand} {X : V} (id off : Nat) (hop : o.op = .load T x) (hg : GOn ops o m) (hdst : o.dst = some d) (hd : d < G.nt) (hT : AggT P T k)
    (hx : evO m x = .ptr id off) (hb : m (.b id) = .box fz n) (hk : off + k ≤ n) (hX : mkV (cellsM m id off k) = X) : Valid P ops G o m ⟨gloc ops o ++ (lo x ++ .b id :: cellsL id off k), [(.t d, X)]⟩ := by
  subst hX; exact v_load_box hop hg hdst hd hT hx hb hk
theorem w_ldp {d T k : Nat} {x : Operand} (cs xs : List D) (hop : o.op = .load T x) (hg : GOn ops o m) (hdst : o.dst = some d) (hd : d < G.nt) (hT : AggT P T k)
    (hx : evO m x = .d (.dp cs)) (hk : k ≤ cs.length) (hX : cs.take k = xs) : Valid P ops G o m ⟨gloc ops o ++ lo x, [(.t d, .d (.agg xs))]⟩ := by
  subst hX; exact v_load_dp hop hg hdst hd hT hx hk
theorem w_bld {d T : Nat} {parts : Array (Nat × Operand)} {z : Value} {pl : Array (Nat × Nat)} {X : V} (zs cs : List V) (xs : List (Nat × V)) (hop : o.op = .build T parts) (hg : GOn ops o m) (hdst : o.dst = some d) (hd : d < G.nt) (hT : BuildT P T z pl)
    (hzs : z.cells.size = zs.length) (hfit : ∀ (i : Nat) (v : Value) (c : V), z.cells[i]? = some v → zs[i]? = some c → c = .d (.s v) ∨ zeroFits v c = true)
    (hx : parts.toList.map (fun p => (p.1, evO m p.2)) = xs) (h1 : onesB xs = true) (hf : fillV (pl[·]?) zs xs = some cs) (hX : mkV cs = X) :
    Valid P ops G o m ⟨gloc ops o ++ parts.toList.flatMap (fun p => lo p.2), [(.t d, X)]⟩ := by
  subst hX; exact v_build hop hg hdst hd hT hzs hfit hx (fun q hq c hc => List.all_eq_true.1 (List.all_eq_true.1 h1 q hq) c hc) hf
end
end Go.Awp
