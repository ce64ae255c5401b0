/- The two tables of unicode/utf8 as what is known of the world; what its slow decoder hands back, as a contract. No program in sight. -/
import Derived.Test.YthhpelmjnmlgjaaGreatDoorAwpMore
import Derived.Lib.LaidU8
import Derived.Shelf.Unicode.DecodeSlow
set_option linter.unusedSimpArgs false
set_option linter.unusedVariables false
namespace Go.Awp
open Go.RowKit

def decR (s : ByteArray) : Int := ((Lib.decodeGo s).1 : Nat)
def decN (s : ByteArray) : Int := ((Lib.decodeGo s).2 : Nat)

theorem cell_kept {w w' : World} (h : Below w.heap.size w w') {a : Addr} {v : Value} (hc : w.cell? a = some v) : w'.cell? a = some v := by
  have hlt : a.block < w.heap.size := by
    unfold World.cell? at hc
    cases hb : w.heap[a.block]? with
    | none => rw [hb] at hc; simp at hc
    | some o => exact (Array.getElem?_eq_some_iff.1 hb).1
  unfold World.cell? at hc ⊢
  rw [h.block _ hlt]; exact hc

def utfAmb (g3 g4 : Nat) : Amb := ⟨fun w => Lib.Utf8Tabs g3 g4 w, fun w w' h hb => ⟨fun c hc => cell_kept hb (h.1 c hc), fun i hi => ⟨cell_kept hb (h.2 i hi).1, cell_kept hb (h.2 i hi).2⟩⟩⟩

theorem spec_utf {P : Program} {g3 g4 f : Nat} (h : ∀ (s : ByteArray) (w : World), Lib.Utf8Tabs g3 g4 w →
    Calls P f #[.string s] w fun e w' => e = .returned (.tuple #[.int .i32 (Lib.decodeGo s).1, .int .i64 (Lib.decodeGo s).2]) ∧ Below w.heap.size w w') (s : ByteArray) :
    Awp.Spec P (utfAmb g3 g4) f [.s (.string s)] (.ds [.s (.int .i32 (decR s)), .s (.int .i64 (decN s))]) := by
  intro w vs ok0 hA hlt hsz hrep
  have hvs : vs = #[.string s] := by
    have h1 : vs.size = 1 := hsz
    have h2 := hrep 0 vs[0] (.s (.string s)) (by simp [h1]) rfl
    cases vs with
    | mk l =>
      match l, h1 with
      | [x], _ => simp at h2; cases h2; rfl
  subst hvs
  refine (h s w hA).mono fun e w' ⟨h1, h2⟩ => ⟨_, h1, h2, .many (by simp) rfl fun i v x hv hx => ?_⟩
  match i with
  | 0 => simp at hv hx; subst hv; subst hx; exact .s _
  | 1 => simp at hv hx; subst hv; subst hx; exact .s _
  | i + 2 => simp at hv
end Go.Awp
