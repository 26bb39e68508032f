/- The symbolic executor: what one operation does, and that it does so. -/
import Derived.Test.YtdipagkcdpcnbaaGreatQOp
namespace Go.Qx
open Go Go.RowKit Go.Sx

section
variable {I : TypeId → Type} [∀ E, Rp (I E)]
def leafOk : PV I → Bool
  | .int _ _ => true
  | .bool _ => true
  | .str _ => true
  | .sl _ _ _ => true
  | .nl _ => true
  | .ptr _ _ => true
  | .vw _ => true
  | .clo _ _ => true
  | .fn _ _ _ => true
  | .dat _ _ => true
  | _ => false
def pubU (O : Obs I) : List Nat → List (Nat × Option (Ob I))
  | [] => []
  | l :: r => match O l with
    | some (some (.row E xs false)) => (l, some (.row E xs true)) :: pubU O r
    | _ => pubU O r
def getKds (tb : Tab I) (O : Obs I) : (ks : List Kd) → List (PV I) → Option (Tys I ks × List Nat)
  | [], [] => some ((), [])
  | k :: ks, p :: ps => Option.bind (getKd tb O k p) fun x => Option.bind (getKds tb O ks ps) fun y => some ((x.1, y.1), x.2 ++ y.2)
  | _, _ => none
/-- An element of a slice. -/
def getE (tb : Tab I) (O : Obs I) (E : TypeId) (p : PV I) : Option (I E × List Nat) :=
  Option.bind (cellsP p) fun ls => Option.bind (datL O ls) fun t => Option.bind (ofG tb E t.1) fun a => some (a, t.2)
/-- The elements of a row that is written out. -/
def evRow (tb : Tab I) (O : Obs I) (n : Nat) (G : Nat → Option (PV I)) (E : TypeId) : Nat → List (Nat × Operand) → Option (List (I E) × List Nat)
  | _, [] => some ([], [])
  | i, (j, x) :: r => bif Nat.beq j i then Option.bind (evT tb n G (some E) x) fun p => Option.bind (getE tb O E p) fun a => Option.bind (evRow tb O n G E (i + 1) r) fun as => some (a.1 :: as.1, a.2 ++ as.2) else none
def retP : List (PV I) → PV I
  | [p] => p
  | ps => .tup ps
/-- May a new row of this length be made. -/
def mkRoom (len cap : Int) (b : Nat) : Option Nat := bif (decide (0 ≤ len) && decide (len ≤ cap) && decide (cap * (b : Int) ≤ 140737488355328)) then some len.toNat else none
def asI : PV I → Option Int
  | .int .i64 n => some n
  | _ => none
/-- By the place in an array. -/
def arrB {ρ : Type} : Nat → Nat → Int → (Nat → Option ρ) → Option ρ
  | 0, _, _, _ => none
  | m + 1, i, j, f => bif j == Int.ofNat i then f i else arrB m (i + 1) j f
/-- A row that is looked at from some place on, as it stands. -/
def viewOf (O : Obs I) (E : TypeId) (p : PV I) (lo hi mx : Option Operand) : Option (Nat × List (I E) × Operand) := match p, lo, hi, mx with
  | .vw l, some x, none, none => match O l with
    | some (some (.row E' xs false)) => Option.bind (castL E E' xs) fun ys => some (l, ys, x)
    | _ => none
  | _, _, _, _ => none
section
variable {ρ : Type}
def val (k : Ef I → Option ρ) (p : PV I) : Option ρ := k ⟨p, [], []⟩
/-- What an operation does: n slots, the operands' slots G, the objects O that it touches, new objects from nb on. -/
def eff (tb : Tab I) (disp : Disp I) (n : Nat) (G : Nat → Option (PV I)) (O : Obs I) (nb : Nat) (ty : TypeId) (op : Op) (k : Ef I → Option ρ) : Option ρ :=
  match op with
  | .move x => Option.bind (evT tb n G (some ty) x) (val k)
  | .assign x => Option.bind (evT tb n G (some ty) x) (val k)
  | .binOp b T x y _ => Option.bind (evP n G x) fun p => Option.bind (evP n G y) fun q => binK tb T b p q (val k)
  | .unOp u _ x => Option.bind (evP n G x) fun p => match u, p with
    | .not, .bool b => val k (.bool (!b))
    | .neg, .int i a => val k (.int i (wr i (0 - a)))
    | _, _ => none
  | .pick x a b => Option.bind (evP n G x) fun p => Option.bind (evP n G a) fun q => Option.bind (evP n G b) fun q' => match p with
    | .bool g => bif g then val k q else val k q'
    | _ => none
  | .fieldAddr T x f => Option.bind (evP n G x) fun p => Option.bind (tb.off T f) fun d => match p with
    | .ptr l o => val k (.ptr l (o + d))
    | .ep E x o => val k (.ep E x (o + d))
    | .vp l sz j o => val k (.vp l sz j (o + d))
    | _ => none
  | .field T x f => Option.bind (evP n G x) fun p => Option.bind (tb.off T f) fun d => Option.bind (tb.fty T f) fun T' => Option.bind (aggG p) fun ls => Option.bind (loadL tb T' ls d) (val k)
  | .load T x => Option.bind (evP n G x) fun p => match p with
    | .ptr l o => match O l with
      | some (some (.var _ ls _)) => Option.bind (loadL tb T ls o) (val k)
      | _ => none
    | .ep E x o => Option.bind (loadL tb T [.dat E x] o) (val k)
    | .vp l sz j o => match O l with
      | some (some (.row E xs _)) => bif Nat.beq sz (Rp.sz (I E)) then Option.bind xs[j]? fun e => Option.bind (loadL tb T [.dat E e] o) (val k) else none
      | some (some (.bo E xs)) => bif Nat.beq sz (Rp.sz (I E)) then Option.bind xs[j]? fun e => Option.bind (loadL tb T [.dat E e] o) (val k) else none
      | _ => none
    | _ => none
  | .indexAddr T x y => Option.bind (evP n G x) fun p => Option.bind (evP n G y) fun q => Option.bind (asI q) fun j => match p with
    | .ptr l o => Option.bind (tb.arr T) fun a => arrB a.2.1 0 j fun i => val k (.ptr l (o + i * a.2.2))
    | .ep E x o => Option.bind (tb.arr T) fun a => arrB a.2.1 0 j fun i => val k (.ep E x (o + i * a.2.2))
    | .vp l sz j' o => Option.bind (tb.arr T) fun a => arrB a.2.1 0 j fun i => val k (.vp l sz j' (o + i * a.2.2))
    | .sl E xs _ => Option.bind (tb.el T) fun E' => bif Nat.beq E E' then Option.bind (idx xs j) fun e => val k (.ep E e 0) else none
    | .vw l => Option.bind (tb.el T) fun E' => match O l with
      | some (some (.row E xs true)) => bif Nat.beq E E' then Option.bind (idx xs j) fun e => val k (.ep E e 0) else none
      | some (some (.ro E xs)) => bif Nat.beq E E' then Option.bind (idx xs j) fun e => val k (.ep E e 0) else none
      | some (some (.row E xs false)) => bif Nat.beq E E' then Option.bind (idx xs j) fun _ => val k (.vp l (Rp.sz (I E)) j.toNat 0) else none
      | some (some (.bo E xs)) => bif Nat.beq E E' then Option.bind (idx xs j) fun _ => val k (.vp l (Rp.sz (I E)) j.toNat 0) else none
      | _ => none
    | .vs l sz lo => Option.bind (tb.el T) fun E' => match O l with
      | some (some (.row E xs false)) => bif Nat.beq E E' && Nat.beq sz (Rp.sz (I E)) then Option.bind (idx (xs.drop lo) j) fun _ => val k (.vp l sz (lo + j.toNat) 0) else none
      | _ => none
    | _ => none
  | .index T x y => Option.bind (evP n G x) fun p => Option.bind (evP n G y) fun q => match p, q with
    | .str t, .int _ j => bif tb.isStr T then Option.bind (sidx t j) fun e => val k (.int .u8 (e.toNat : Int)) else none
    | p, q => Option.bind (asI q) fun j => Option.bind (tb.arr T) fun a => Option.bind (aggG p) fun ls => arrB a.2.1 0 j fun i => Option.bind (loadL tb a.1 ls (i * a.2.2)) (val k)
  | .extract x i => Option.bind (evP n G x) fun p => match p with
    | .tup ls => Option.bind ls[i]? (val k)
    | _ => none
  | .nilCheck x => Option.bind (evP n G x) fun p => match p with
    | .ptr l o => val k (.ptr l o)
    | .ep E x o => val k (.ep E x o)
    | .vp l sz j o => val k (.vp l sz j o)
    | _ => none
  | .convert a b x => Option.bind (evP n G x) fun p => match p with
    | .int _ j => Option.bind (tb.ik a) fun _ => Option.bind (tb.ik b) fun i => val k (.int i (wr i j))
    | _ => none
  | .build T ps => Option.bind (tb.flds T) fun pl => Option.bind (tb.zero T) fun zs => Option.bind (evB tb n G (tb.fty T) ps.toList) fun qs => Option.bind (fillP tb pl zs qs) fun ls => val k (mkAgg T ls)
  | .makeFunc (.func f) xs ys => match xs.toList with
    | [] => Option.bind (evs tb n G ys.toList []) fun ps => val k (.clo f ps)
    | _ => none
  | .slice T x lo hi mx => Option.bind (evP n G x) fun p0 => Option.bind (tb.el T) fun E => match viewOf O E p0 lo hi mx with
    | some v => Option.bind (evP n G v.2.2) fun q => Option.bind (asI q) fun j => Option.bind (idx v.2.1 j) fun _ => val k (.vs v.1 (Rp.sz (I E)) j.toNat)
    | none => Option.bind (getSl O E p0) fun xs => match lo, hi, mx with
      | none, some (.const (.int .i64 0)), some (.const (.int .i64 0)) => k ⟨.nl E, pubU O xs.2, []⟩
      | none, some h, some m => Option.bind (evP n G h) fun q => Option.bind (evP n G m) fun q' => Option.bind (asI q) fun h' => Option.bind (asI q') fun m' => bif h' == (xs.1.length : Int) && m' == (xs.1.length : Int) then k ⟨.sl E xs.1 true, pubU O xs.2, []⟩ else none
      | none, some h, none => Option.bind (evP n G h) fun q => Option.bind (asI q) fun h' => Option.bind (cut xs.1 0 h') fun ys => k ⟨.sl E ys false, pubU O xs.2, []⟩
      | some l, none, none => Option.bind (evP n G l) fun q => Option.bind (asI q) fun l' => Option.bind (cut xs.1 l' (xs.1.length : Int)) fun ys => k ⟨.sl E ys false, pubU O xs.2, []⟩
      | some l, some h, none => Option.bind (evP n G l) fun q => Option.bind (evP n G h) fun q' => Option.bind (asI q) fun l' => Option.bind (asI q') fun h' => Option.bind (cut xs.1 l' h') fun ys => k ⟨.sl E ys false, pubU O xs.2, []⟩
      | _, _, _ => none
  | .alloc T => Option.bind (tb.zero T) fun ls => k ⟨.ptr nb 0, [], [.var T ls true]⟩
  | .box T x => Option.bind (evT tb n G (some T) x) fun p => Option.bind (cellsP p) fun ls => k ⟨.ptr nb 0, [], [.var T ls true]⟩
  | .store T x y => Option.bind (evP n G x) fun p => Option.bind (evT tb n G (some T) y) fun q => Option.bind (cellsP q) fun vs => Option.bind (tb.size T) fun m => bif (Nat.beq m (sizeG vs) && vs.all leafOk) then (match p with
    | .ptr l o => match O l with
      | some (some (.var T' ls true)) => Option.bind (overG tb o vs ls) fun ls' => k ⟨.undef, [(l, some (.var T' ls' true))], []⟩
      | _ => none
    | .vp l sz j o => match O l with
      | some (some (.row E xs false)) => bif Nat.beq sz (Rp.sz (I E)) then Option.bind (datL O vs) fun t => Option.bind xs[j]? fun e => bif !(t.2.elem l) then Option.bind (overG tb o t.1 [.dat E e]) fun ls' =>
            Option.bind (ofG tb E ls') fun e' => k ⟨.undef, pubU O t.2 ++ [(l, some (.row E (xs.set j e') false))], []⟩ else none else none
      | _ => none
    | _ => none) else none
  | .buildSlice T len ps => Option.bind (tb.el T) fun E => Option.bind (tb.bytes E) fun _ => match len, ps.toList with
    | 0, [] => val k (.nl E)
    | len, l => Option.bind (evRow tb O n G E 0 l) fun xs =>
        bif (Nat.beq len xs.1.length && Nat.blt 0 len && Nat.ble (len * Rp.sz (I E)) 16777216) then k ⟨.vw nb, pubU O xs.2, [.row E xs.1 false]⟩ else none
  | .makeSlice T x y => Option.bind (evP n G x) fun p => Option.bind (evP n G y) fun q => Option.bind (asI p) fun len => Option.bind (asI q) fun cap => Option.bind (tb.el T) fun E => Option.bind (tb.bytes E) fun b => Option.bind (tb.zero E) fun zs => Option.bind (tb.of E zs) fun z =>
      Option.bind (mkRoom len cap b) fun m => k ⟨.vw nb, [], [.row E (List.replicate m z) false]⟩
  | .call ⟨.builtin .len, args, ats⟩ => match args.toList, ats.toList with
    | [x], [T] => Option.bind (evP n G x) fun p => match p with
      | .sl _ xs _ => Option.bind (tb.el T) fun _ => val k (.int .i64 (xs.length : Int))
      | .nl _ => Option.bind (tb.el T) fun _ => val k (.int .i64 0)
      | .vw l => match O l with
        | some (some (.row _ xs _)) => Option.bind (tb.el T) fun _ => val k (.int .i64 (xs.length : Int))
        | some (some (.ro _ xs)) => Option.bind (tb.el T) fun _ => val k (.int .i64 (xs.length : Int))
        | some (some (.bo _ xs)) => Option.bind (tb.el T) fun _ => val k (.int .i64 (xs.length : Int))
        | _ => none
      | .vs l _ lo => match O l with
        | some (some (.row _ xs _)) => Option.bind (tb.el T) fun _ => val k (.int .i64 ((xs.drop lo).length : Int))
        | _ => none
      | .str t => bif tb.isStr T then val k (.int .i64 (t.size : Int)) else none
      | _ => none
    | _, _ => none
  | .call ⟨.builtin .clear, args, ats⟩ => match args.toList, ats.toList with
    | [x], [T] => Option.bind (evP n G x) fun p => Option.bind (tb.el T) fun E => Option.bind (tb.bytes E) fun _ => Option.bind (tb.zero E) fun zs => Option.bind (tb.of E zs) fun z => match p with
      | .vs l sz lo => match O l with
        | some (some (.row E' xs false)) => bif Nat.beq sz (Rp.sz (I E)) && Nat.blt lo xs.length then Option.bind (castL E E' xs) fun ys => k ⟨.tup [], [(l, some (.row E (ys.take lo ++ List.replicate (ys.length - lo) z) false))], []⟩ else none
        | _ => none
      | _ => none
    | _, _ => none
  | .call ⟨.builtin .max, args, ats⟩ => match args.toList, ats.toList with
    | [x, y], [_, _] => Option.bind (evP n G x) fun p => Option.bind (evP n G y) fun q => match p, q with
      | .int i a, .int i' b => if i = i' then val k (.int i (max a b)) else none
      | _, _ => none
    | _, _ => none
  | .call ⟨.builtin .min, args, ats⟩ => match args.toList, ats.toList with
    | [x, y], [_, _] => Option.bind (evP n G x) fun p => Option.bind (evP n G y) fun q => match p, q with
      | .int i a, .int i' b => if i = i' then val k (.int i (min a b)) else none
      | _, _ => none
    | _, _ => none
  | .call ⟨.builtin .append, args, ats⟩ => match args.toList, ats.toList with
    | [x, y], [T, T'] => bif Nat.beq T' T then Option.bind (evT tb n G (some T) x) fun p => Option.bind (evT tb n G (some T) y) fun q => Option.bind (tb.el T) fun E => Option.bind (tb.bytes E) fun b => Option.bind (getSl O E q) fun ys => match p with
      | .nl _ => Option.bind (room (0 + ys.1.length) b) fun _ => k ⟨.vw nb, pubU O ys.2, [.row E ys.1 false]⟩
      | .sl E' xs true => Option.bind (castL E E' xs) fun xs' => Option.bind (room (xs'.length + ys.1.length) b) fun _ => k ⟨.vw nb, pubU O ys.2, [.row E (xs' ++ ys.1) true]⟩
      | .vw l => match O l with
        | some (some (.row E' xs fl)) => Option.bind (castL E E' xs) fun xs' => Option.bind (room (xs'.length + ys.1.length) b) fun _ => bif ys.2.elem l then none else k ⟨.vw nb, pubU O ys.2 ++ [(l, none)], [.row E (xs' ++ ys.1) fl]⟩
        | _ => none
      | _ => none else none
    | _, _ => none
  | .call ⟨.value (.func f), args, ats⟩ => Option.bind (evs tb n G args.toList ats.toList) fun ps => disp ρ f O nb ps k
  | .call ⟨.value (.tmp t), args, ats⟩ => Option.bind (evP n G (.tmp t)) fun p => match p with
    | .clo f ls => Option.bind (evs tb n G args.toList ats.toList) fun ps => disp ρ f O nb (ps ++ ls) k
    | .fn ks rs g => Option.bind (evs tb n G args.toList ats.toList) fun ps => Option.bind (getKds tb O ks ps) fun q => Option.bind (app ks g q.1) fun r => k ⟨retP (pvT tb nb rs r), pubU O q.2, []⟩
    | _ => none
  | _ => none
end
omit [∀ E, Rp (I E)] in
theorem bindc {α β : Type} {a : Option α} {f g : α → Option β} (h : ∀ x, f x = g x) : a.bind f = a.bind g := by rw [funext h]
omit [∀ E, Rp (I E)] in
theorem bifc {α : Type} {b : Bool} {x y x' y' : α} (h : x = x') (k : y = y') : (bif b then x else y) = bif b then x' else y' := by rw [h, k]
omit [∀ E, Rp (I E)] in
theorem ifc {α : Type} {p : Prop} [Decidable p] {x y x' y' : α} (h : x = x') (k : y = y') : (if p then x else y) = if p then x' else y' := by rw [h, k]
theorem arrB_bind {α β : Type} (g : α → Option β) {f : Nat → Option β} {f' : Nat → Option α} : ∀ (m i : Nat) (j : Int), (∀ i, f i = (f' i).bind g) → arrB m i j f = (arrB m i j f').bind g
  | 0, _, _, _ => rfl
  | m + 1, i, j, h => by
    simp only [arrB]
    cases j == Int.ofNat i
    · exact arrB_bind g m (i + 1) j h
    · exact h i
omit [∀ E, Rp (I E)] in
theorem arrB_some {α : Type} {f : Nat → Option α} {r : α} : ∀ {m i : Nat} {j : Int}, arrB m i j f = some r → ∃ i', i ≤ i' ∧ i' < i + m ∧ j = Int.ofNat i' ∧ f i' = some r
  | 0, _, _, h => by cases h
  | m + 1, i, j, h => by
    simp only [arrB] at h
    cases hj : j == Int.ofNat i with
    | true =>
      rw [hj] at h
      exact ⟨i, Nat.le_refl _, by omega, by simpa using hj, h⟩
    | false =>
      rw [hj] at h
      obtain ⟨i', h1, h2, h3, h4⟩ := arrB_some h
      exact ⟨i', by omega, by omega, h3, h4⟩
theorem eff_bind {P : Program} {tb : Tab I} {disp : Disp I} (hd : DispOk P disp) {n : Nat} {G : Nat → Option (PV I)} {O : Obs I} {nb : Nat} {ty : TypeId} {op : Op} {ρ : Type} (k : Ef I → Option ρ) :
    eff tb disp n G O nb ty op k = (eff tb disp n G O nb ty op some).bind k := by
  have hb : ∀ (b : Bool) (x y : Option (Ef I)), (bif b then x else y).bind k = bif b then x.bind k else y.bind k := fun b x y => by cases b <;> rfl
  have hi : ∀ (p : Prop) [Decidable p] (x y : Option (Ef I)), (if p then x else y).bind k = if p then x.bind k else y.bind k := fun p _ x y => by by_cases h : p <;> simp [h]
  unfold eff
  split <;> (try simp only [binK_eq]) <;> (try simp only [Option.bind_assoc, hb])
  all_goals repeat' (first | rfl | (refine arrB_bind k _ _ _ fun _ => ?_) | exact hd.par _ _ _ _ _ _ | (refine bindc fun _ => ?_) | (refine bifc ?_ ?_) | (refine ifc ?_ ?_) | split | (simp only [Option.bind_assoc, hb, hi, Option.bind_some, Option.bind_none]))
end
end Go.Qx
