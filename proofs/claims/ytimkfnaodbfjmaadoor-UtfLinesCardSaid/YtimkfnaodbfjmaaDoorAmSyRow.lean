/-
  ROWS OF PLAIN DATA OVER UNKNOWN CONTENTS: handed over whole; read at a place.
-/
import Derived.Test.YtimkfnaodbfjmaaDoorAmSyArg
namespace Go.AM
open Go.RowKit

variable {P : Program} {E : Env}

theorem pubL_map {α : Type} {g : Heap → V → Option (V × Heap)} {f : α → V} (hf : ∀ a h, g h (f a) = some (f a, h)) (l : List α) (h : Heap) : pubL g (l.map f) h = some (l.map f, h) := by
  induction l with
  | nil => rfl
  | cons a l IH =>
    change (match g h (f a) with
      | none => none
      | some (v', h1) => match pubL g (l.map f) h1 with
        | none => none
        | some (l', h2) => some (v' :: l', h2)) = _
    rw [hf]
    simp only [IH, List.map_cons]
theorem pub_text (seen : List Nat) (a : List UInt8) (h : Heap) : pub seen depth h (.str a) = some (.str a, h) := rfl
theorem retAll_row {α : Type} {f : α → V} (hf : ∀ seen a h, pub seen depth h (f a) = some (f a, h)) {h : Heap} {r ver n ty sz pb : Nat} {cap : Option Nat} {l : List α} {es : List V} (hg : h.get r = .row ver ty sz pb cap es) (he : es = l.map f) (hn : n = l.length) : retAll h (.sl r ver 0 n none) = some (.fsl ty sz pb (l.map f) cap) := by
  subst he hn
  have e : retV h [] (.sl r ver 0 l.length none) = some (.fsl ty sz pb (l.map f) cap, h, [r]) := by
    change (match h.get r with
      | .row ver' ty sz _ cap es =>
        bif Nat.beq ver ver' && Nat.beq 0 0 && Nat.beq l.length (List.len es) && noCap none && !(memN r []) then
          match pubL (pub [r] depth) es h with
          | some (es', h1) => match h1.get r with
            | .row _ _ _ pb _ _ => some (V.fsl ty sz pb es' cap, h1, [r])
            | _ => none
          | none => none
        else match pub [] depth h (.sl r ver 0 l.length none) with
          | some (v', h') => some (v', h', [])
          | none => none
      | _ => none) = _
    rw [hg]
    simp only [Nat.beq_refl, List.len_eq, List.length_map]
    rw [pubL_map (hf [r])]
    simp only [hg]
    rfl
  change (match retV h [] (.sl r ver 0 l.length none) with
    | some (v', _) => some v'
    | none => none) = _
  rw [e]
/-- A row's element. -/
theorem load_at {α : Type} {f : α → V} (hc : ∀ a, (f a).cells = [f a]) {h : Heap} {t ty r ver i k pub : Nat} {cap : Option Nat} {l : List α} (d : α) (ha : aggOf P t = some false) (hs : size P t = 1) (hr : h.get r = .row ver ty 1 pub cap (l.map f)) (he : i = k * 1) (hk : k < l.length) : load P h t (.ptr r ver i) = some (f (l.getD k d)) := by
  subst he
  rw [Nat.mul_one]
  refine load_one ha hs hr ?_ (hc _)
  rw [List.getElem?_map, List.getElem?_eq_getElem hk, List.getD_eq_getElem?_getD, List.getElem?_eq_getElem hk]; rfl
theorem load_gat {α : Type} {f : α → V} (hc : ∀ a, (f a).cells = [f a]) {h : Heap} {t i k : Nat} {l : List α} (d : α) (ha : aggOf P t = some false) (hs : size P t = 1) (he : i = k * 1) (hk : k < l.length) : load P h t (.gptr 1 (l.map f) i) = some (f (l.getD k d)) := by
  subst he
  rw [Nat.mul_one]
  refine load_gone ha hs ?_ (hc _)
  rw [List.getElem?_map, List.getElem?_eq_getElem hk, List.getD_eq_getElem?_getD, List.getElem?_eq_getElem hk]; rfl

end Go.AM
