/- Slices of strings. -/
import Derived.Test.YtabeimmjclkobaaSl
import Derived.Test.YtabeimmjclkobaaRcP
namespace Go.Proofs.Ytabeimmjclkobaa
open Go.ChangeShapes Go.WideShapes Go.RowKit

def strVal (l : List UInt8) : Value := .string ⟨l.toArray⟩
/-- a slice of strings, only read -/
def SRow (A : Nat → Prop) (w : World) (v : Value) (l : List (List UInt8)) : Prop := ∃ p cap, v = .slice p l.length cap ∧ Holds A w p (l.map strVal) ∧ l.length ≤ cap
theorem SRow.keep {A : Nat → Prop} {w w' : World} {v : Value} {l : List (List UInt8)} (h : SRow A w v l) (hk : Agree A w w') : SRow A w' v l := by
  obtain ⟨p, cap, hv, hh, hc⟩ := h; exact ⟨p, cap, hv, hh.keep hk, hc⟩
theorem SRow.lt {A : Nat → Prop} {w : World} {v : Value} {l : List (List UInt8)} (h : SRow A w v l) : SRow (fun g => A g ∧ g < w.heap.size) w v l := by
  obtain ⟨p, cap, hv, hh, hc⟩ := h
  refine ⟨p, cap, hv, ?_, hc⟩
  by_cases hne : 0 < (l.map strVal).length
  · obtain ⟨g, off, hp, hA, hlt, hcell⟩ := hh.at hne
    exact .inr ⟨g, off, hp, ⟨hA, hlt⟩, hcell⟩
  · exact .inl (List.eq_nil_of_length_eq_zero (by omega))
theorem SRow.mono {A B : Nat → Prop} {w : World} {v : Value} {l : List (List UInt8)} (h : SRow A w v l) (hk : ∀ g, A g → B g) : SRow B w v l := by
  obtain ⟨p, cap, hv, hh, hc⟩ := h; exact ⟨p, cap, hv, hh.mono hk, hc⟩
theorem SRow.nil (A : Nat → Prop) (w : World) : SRow A w (.slice none 0 0) [] := ⟨none, 0, rfl, .inl rfl, Nat.le_refl _⟩
theorem SRow.of_own {w : World} {base n : Nat} {e : TypeId} {v : Value} {l : List (List UInt8)} (h : w.ownsRow base e 1 v n (l.map strVal)) (hn : l.length = n) : SRow (base ≤ ·) w v l := by
  obtain ⟨p, cap, hv, hh, hc⟩ := ownsRow_holds3 h
  exact ⟨p, cap, by rw [hv, hn], hh.mono fun g hg => hg.2, by rw [hn]; exact hc⟩
theorem strVal_data (s : ByteArray) : strVal s.data.toList = .string s := rfl
theorem strVal_mk (l : List UInt8) : (⟨l.toArray⟩ : ByteArray).data.toList = l := by simp
theorem strVal_inj {a b : List UInt8} (h : strVal a = strVal b) : a = b := by simpa [strVal] using h
/-- the string that lies at a place -/
theorem SRow.at {A : Nat → Prop} {w : World} {p : Option Addr} {n cap : Nat} {l : List (List UInt8)} (h : SRow A w (.slice p n cap) l) {k : Nat} (hk : k < n) :
    ∃ g o, p = some ⟨g, o, none⟩ ∧ A g ∧ g < w.heap.size ∧ n = l.length ∧ ∀ j x, l[j]? = some x → w.cell? ⟨g, o + j, none⟩ = some (strVal x) := by
  obtain ⟨p', cap', hv, hh, _⟩ := h
  simp only [Value.slice.injEq] at hv
  obtain ⟨rfl, rfl, _⟩ := hv
  obtain ⟨g, o, rfl, hA, hg, hc⟩ := hh.at (by rw [List.length_map]; omega)
  exact ⟨g, o, rfl, hA, hg, rfl, fun j x hj => hc j _ (by rw [List.getElem?_map, hj]; rfl)⟩
theorem SRow.parts {A : Nat → Prop} {w : World} {v : Value} {l : List (List UInt8)} (h : SRow A w v l) : ∃ p cap, v = .slice p l.length cap := by
  obtain ⟨p, cap, hv, _⟩ := h; exact ⟨p, cap, hv⟩
end Go.Proofs.Ytabeimmjclkobaa
