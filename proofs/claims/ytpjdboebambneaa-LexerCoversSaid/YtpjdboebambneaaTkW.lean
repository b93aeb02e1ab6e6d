/- Tokens as a slice that is only read. -/
import Derived.Test.YtpjdboebambneaaTkT
namespace Go.Proofs.Ytpjdboebambneaa
open Go.ChangeShapes Go.WideShapes Go.RowKit

theorem cellsT_at : ∀ (l : List Tk.Tok) (k : Nat) (h : k < l.length), (cellsT l)[k * 3]? = some (.int .i64 l[k].kind) ∧ (cellsT l)[k * 3 + 1]? = some (.string ⟨l[k].text.toArray⟩) ∧ (cellsT l)[k * 3 + 2]? = some (.int .i64 l[k].at_)
  | [], _, h => absurd h (by simp)
  | t :: r, 0, _ => ⟨rfl, rfl, rfl⟩
  | t :: r, k + 1, h => by
    have h2 : k < r.length := by simpa using h
    have := cellsT_at r k h2
    have e : cellsT (t :: r) = tokCells t ++ cellsT r := rfl
    have l3 : (tokCells t).length = 3 := rfl
    rw [e, List.getElem?_append_right (by rw [l3]; omega), List.getElem?_append_right (by rw [l3]; omega), List.getElem?_append_right (by rw [l3]; omega), l3]
    rw [show (k + 1) * 3 - 3 = k * 3 by omega, show (k + 1) * 3 + 1 - 3 = k * 3 + 1 by omega, show (k + 1) * 3 + 2 - 3 = k * 3 + 2 by omega]
    exact this

/-- tokens, as a slice that is only read -/
def TokRow (A : Nat → Prop) (w : World) (v : Value) (l : List Tk.Tok) : Prop := ∃ p cap, v = .slice p l.length cap ∧ Holds A w p (cellsT l)
theorem TokRow.keep {A : Nat → Prop} {w w' : World} {v : Value} {l : List Tk.Tok} (h : TokRow A w v l) (hk : Agree A w w') : TokRow A w' v l := by
  obtain ⟨p, cap, rfl, hh⟩ := h
  exact ⟨p, cap, rfl, hh.keep hk⟩

theorem TokRow.mono {A B : Nat → Prop} {w : World} {v : Value} {l : List Tk.Tok} (h : TokRow A w v l) (hab : ∀ g, A g → B g) : TokRow B w v l := by
  obtain ⟨p, cap, rfl, hh⟩ := h
  exact ⟨p, cap, rfl, hh.mono hab⟩
theorem TokRow.any {A : Nat → Prop} {w w' : World} {v : Value} {l : List Tk.Tok} (h : TokRow A w v l) (hb : Below w.heap.size w w') : TokRow (fun _ => True) w' v l := (h.keep (agree_below hb)).mono fun _ _ => trivial

theorem tokens_holds (s : ByteArray) (w : World) (hs : s.size ≤ 20000) :
    Calls Try.prog 43 #[.string s] w fun e w' => ∃ v, e = .returned v ∧ TokRow (fun g => w.heap.size ≤ g) w' v (Tk.toksAt s.data.toList 0) ∧ Below w.heap.size w w' := by
  refine (tokens_any s w hs).mono ?_
  rintro e w' ⟨v, rfl, ho, hb⟩
  obtain ⟨p, cap, rfl, hh⟩ := ownsRow_holds2 ho
  exact ⟨_, rfl, ⟨p, cap, rfl, hh.mono fun _ h => h.2⟩, hb⟩

end Go.Proofs.Ytpjdboebambneaa
