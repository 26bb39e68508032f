/- Drawn entries, and functions at drawn function nodes. No program in sight. -/
import Derived.Test.YtdipagkcdpcnbaaGreatRAwk12
import Derived.Test.YtdipagkcdpcnbaaGreatRFunA
namespace Go.Pl
open Go Go.RowKit Go.Sx Go.Qx

theorem made_ent {a : Nat} {e : Ent} (h : MadeE a e) : entOK (a : Int) e = true ∧ eOK e = true := by
  constructor
  · unfold entOK
    rw [h.args]
    rcases h.res with ⟨h1, h2⟩ | ⟨h1, _⟩
    · rw [h1, h2, cV_self]; simp
    · rw [h1]; simp
  · rw [eOK_eq, h.ok]
    rcases h.res with ⟨h1, _⟩ | ⟨h1, h2⟩
    · rw [h1]; rfl
    · rw [h1, h2]; rfl
theorem fn_at {T : Api_Type} {N a : Nat} (hM : MadeT T N a) {j : Nat} (hj : j < 3) : ∃ l, T.Nodes[N + j]? = some (kidN 14 l) ∧ l.length = a + 1 ∧ fnB T ((N + j : Nat) : Int) = true := by
  obtain ⟨l, e, hl⟩ := hM.fn j hj
  refine ⟨l, e, hl, ?_⟩
  unfold fnB
  rw [Int.toNat_natCast, e]
  have := hM.len
  rw [inR_of (by omega) (by omega)]
  rfl
/-- A function value at a drawn function node. -/
theorem mem_fun {T : Api_Type} {N a : Nat} (hM : MadeT T N a) {j : Nat} {l : List Int} (hx : T.Nodes[N + j]? = some (kidN 14 l)) (hl : l.length = a + 1) {es : List Ent} (ho : vOK (funV (a : Int) es) = true) (hb : bulkV (funV (a : Int) es) ≤ 4194304) :
    memB T (funV (a : Int) es) ((N + j : Nat) : Int) = es.all fun e => entM (memB T) e l := by
  rw [memB_eq hM.gt hx ho hb]
  have : unM (memB T) (funV (a : Int) es) (kidN 14 l) = ((funV (a : Int) es).Kind == 9 && funM (memB T) (funV (a : Int) es) (kidN 14 l)) := rfl
  rw [this]
  unfold funM
  have e1 : ((funV (a : Int) es).Int_ == (((kidN 14 l).Kids.length - 1 : Nat) : Int)) = true := by
    show ((a : Int) == ((l.length - 1 : Nat) : Int)) = true
    rw [hl]; simp
  rw [e1]
  rfl
end Go.Pl
