/- Structs compared by ==. -/
import Derived.Test.YtdipagkcdpcnbaaGreatSxOps
import Derived.Laws.StructEq
namespace Go.Sx
open Go Go.RowKit
section
variable {P : Program} {T : TypeId} {k : Nat} {r r1 r2 : Bool} {xs ys : Array Value} {w : World} {x y : Operand}
/-- What the comparison of two values of one type gives, whatever the depth that is left. -/
def EqAt (P : Program) (k : Nat) (T : TypeId) (a b : Value) (r : Bool) : Prop := ∀ d w, (Op.equalIn (d + k) T a b).run P w = .ok r w
def EqFs (P : Program) (k : Nat) (xs ys : Array Value) (l : List Field) (r : Bool) : Prop := ∀ d w, (Op.eqFields (d + k) xs ys l).run P w = .ok r w
theorem EqAt.le {a b : Value} {j : Nat} (h : EqAt P k T a b r) (hk : k ≤ j) : EqAt P j T a b r := fun d w => by
  have := h (d + (j - k)) w
  rwa [show d + (j - k) + k = d + j from by omega] at this
theorem eqAt_int {kd kd' : IntKind} {a b : Int} (h : P.underlying T = some (.int kd')) : EqAt P 1 T (.int kd a) (.int kd b) (a == b) := fun d w => run_equalIn_int w d T kd kd' a b h
theorem eqAt_str {a b : ByteArray} (h : P.underlying T = some .string) : EqAt P 1 T (.string a) (.string b) (strEq a b) := fun d w => run_equalIn_string w d T a b h
theorem eqAt_struct {fs : Array Field} (hu : P.underlying T = some (.struct fs)) (hp : P.stoodInHeld T = false) (h : EqFs P k xs ys fs.toList r) : EqAt P (k + 1) T (.agg xs) (.agg ys) r := fun d w => by
  have e : P.fieldsOf T = fs := by simp [Program.fieldsOf, hu]
  have := run_equalIn_struct w (d + k) T xs ys (by rw [e]; exact hu) hp
  rw [e] at this
  exact this.trans (h d w)
theorem eqFs_nil : EqFs P k xs ys [] true := fun d w => by simp [Op.eqFields]
theorem eqFs_cons {f : Field} {fs : List Field} {a b : Value} (hn : (f.name != "_") = true) (ha : ∀ w, (part f.type xs f.offset).run P w = .ok a w) (hb : ∀ w, (part f.type ys f.offset).run P w = .ok b w)
    (h1 : EqAt P k f.type a b r1) (h2 : EqFs P k xs ys fs r2) : EqFs P k xs ys (f :: fs) (r1 && r2) := fun d w => by
  have hn' : f.name ≠ "_" := by simpa using hn
  simp only [Op.eqFields, hn', ne_eq, not_false_eq_true, if_true, Sem.run_bind, ha, hb, Result.andThen_ok, h1 d w]
  cases r1
  · simp
  · simpa using h2 d w
theorem part_one {t : TypeId} {cells : List Value} {o : Nat} {v : Value} (ht : TyOne P t) (hv : cells[o]? = some v) (w : World) : (part t cells.toArray o).run P w = .ok v w := by
  obtain ⟨dd, h1, h2, h3⟩ := ht
  have hagg : (isAgg t).run P w = .ok false w := by
    unfold isAgg
    rw [Sem.run_bind, run_underlying h1 w]
    cases dd <;> simp_all [TypeDesc.isRow]
  simp [part, hagg, hv]
theorem b_aggeql (hm : P.eqGuardType P.depth T = false) (h : EqAt P k T (.agg xs) (.agg ys) r) (hk : Nat.ble k 10000 = true) :
    Runs P w (do eqGuard .eql T x y (.agg xs) (.agg ys); binOp .eql T (.agg xs) (.agg ys)) (.bool r) := by
  have hk' := Nat.le_of_ble_eq_true hk
  have h' := h (10000 - k) w
  rw [show 10000 - k + k = 10000 from by omega] at h'
  simp [Runs, run_eqGuard_agg, hm, run_eql_struct, h']
theorem b_aggneq (hm : P.eqGuardType P.depth T = false) (h : EqAt P k T (.agg xs) (.agg ys) r) (hk : Nat.ble k 10000 = true) :
    Runs P w (do eqGuard .neq T x y (.agg xs) (.agg ys); binOp .neq T (.agg xs) (.agg ys)) (.bool (!r)) := by
  have hk' := Nat.le_of_ble_eq_true hk
  have h' := h (10000 - k) w
  rw [show 10000 - k + k = 10000 from by omega] at h'
  simp [Runs, run_eqGuard_agg, hm, run_neq_struct, h']
end
end Go.Sx
