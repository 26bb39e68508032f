/- The symbolic executor: regions. The executor's way through a region, with its guarded groups joined; the plain way, operation by operation; and that the order of operations that don't touch each other doesn't matter. -/
import Derived.Test.YtdipagkcdpcnbaaGreatQSnd2
namespace Go.Qx
open Go Go.RowKit Go.Sx

def tdOf (tds : List (List Nat)) (i : Nat) : List Nat := (tds[i]?).getD []
def dstOf (ops : List Oper) (i : Nat) : Option Nat := (ops[i]?).bind (·.dst)
def memN (x : Nat) : List Nat → Bool
  | [] => false
  | y :: r => bif Nat.beq x y then true else memN x r
theorem memN_iff {x : Nat} : ∀ {l : List Nat}, memN x l = true ↔ x ∈ l
  | [] => by simp [memN]
  | y :: r => by
    simp only [memN, List.mem_cons]
    cases h : Nat.beq x y with
    | true => simp [Nat.eq_of_beq_eq_true h]
    | false =>
      simp only [cond_false, memN_iff]
      constructor
      · exact .inr
      · rintro (rfl | h')
        · simp at h
        · exact h'
theorem memN_false {x : Nat} {l : List Nat} : memN x l = false ↔ x ∉ l := by
  rw [← Bool.not_eq_true, memN_iff]
def slotsOf (op : Op) : List Nat := op.operands.toList.filterMap fun x => match x with
  | .tmp t => some t
  | _ => none
/-- What an operation touches; what it turns or makes. -/
structure Inf where
  T : Option (List Nat)
  W : List Nat
def disj (a b : List Nat) : Bool := a.all fun x => !(memN x b)
def disjT (a : List Nat) : Option (List Nat) → Bool
  | some t => disj a t
  | none => a.isEmpty
def comp (a b : Inf) : Bool := disj a.W b.W && disjT a.W b.T && disjT b.W a.T
theorem disj_iff {a b : List Nat} : disj a b = true ↔ ∀ x ∈ a, x ∉ b := by
  simp only [disj, List.all_eq_true, Bool.not_eq_true', memN_false]
theorem comp_symm {a b : Inf} (h : comp a b = true) : comp b a = true := by
  simp only [comp, Bool.and_eq_true] at h ⊢
  refine ⟨⟨?_, h.2⟩, h.1.2⟩
  rw [disj_iff] at *
  exact fun x hx hy => h.1.1 x hy hx
def rng (nb : Nat) : Nat → List Nat
  | 0 => []
  | m + 1 => nb :: rng (nb + 1) m
def rdOf (all : List Oper) (o : Oper) : List Nat := slotsOf o.op ++ match o.guard with
  | some (j, _) => (dstOf all j).toList
  | none => []
def dstIn (d : Option Nat) (l : List Nat) : Bool := match d with
  | some d => memN d l
  | none => false
def slotComp (all : List Oper) (x y : Oper) : Bool := !(dstIn x.dst (rdOf all y)) && !(dstIn y.dst (rdOf all x)) && !(dstIn x.dst y.dst.toList)

section
variable {I : TypeId → Type} [∀ E, Rp (I E)]
mutual
def numsP : PV I → List Nat
  | .ptr l _ => [l]
  | .vw l => [l]
  | .vp l _ _ _ => [l]
  | .vs l _ _ => [l]
  | .clo _ ls => numsPs ls
  | .agg ls => numsPs ls
  | .tup ls => numsPs ls
  | _ => []
def numsPs : List (PV I) → List Nat
  | [] => []
  | p :: r => numsP p ++ numsPs r
end
def numsF (F : Nat → Option (PV I)) : List Nat → List Nat
  | [] => []
  | t :: r => (match F t with | some p => numsP p | none => []) ++ numsF F r
def nest (O : Obs I) : List Nat → List Nat
  | [] => []
  | l :: r => (match O l with | some (some (.var _ ls _)) => numsPs ls | _ => []) ++ nest O r
def touch (F : Nat → Option (PV I)) (O : Obs I) (ts : List Nat) : List Nat :=
  let a := numsF F ts
  let b := a ++ nest O a
  b ++ nest O b
/-- Operations that look at no object. -/
def noObj : Op → Bool
  | .move _ => true
  | .assign _ => true
  | .fieldAddr _ _ _ => true
  | .nilCheck _ => true
  | .extract _ _ => true
  | _ => false
def touchO (F : Nat → Option (PV I)) (O : Obs I) (op : Op) : List Nat := bif noObj op then [] else touch F O (slotsOf op)
def resF (F : Nat → Option (PV I)) (ts : List Nat) : Nat → Option (PV I) := fun i => bif memN i ts then F i else none
def resO (O : Obs I) (ls : List Nat) : Obs I := fun i => bif memN i ls then O i else none
def keysU (u : List (Nat × Option (Ob I))) : List Nat := u.map (·.1)
def nbOf (s : St I) (i : Nat) : Nat := s.nx + 8 * i
def effS (tb : Tab I) (disp : Disp I) (s : St I) (i : Nat) (o : Oper) {ρ : Type} (k : Ef I → Option ρ) : Option ρ :=
  bif (slotsOf o.op).all (fun t => (s.F t).isSome) then
  eff tb disp s.n (resF s.F (slotsOf o.op)) (resO s.O (touchO s.F s.O o.op)) (nbOf s i) o.type o.op k else none
/-- May this effect stand? -/
def okE (s : St I) (i : Nat) (e : Ef I) : Bool := Nat.ble e.new.length 8 && freeN (apU s.O e.upd) (nbOf s i) e.new
def infE (s : St I) (i : Nat) (o : Oper) (e : Ef I) : Inf := ⟨some (touchO s.F s.O o.op), keysU e.upd ++ rng (nbOf s i) e.new.length⟩
def apS (s : St I) (i : Nat) (o : Oper) (e : Ef I) : St I := put (apE s (nbOf s i) e) o.dst e.p
def isNil {α : Type} : List α → Bool
  | [] => true
  | _ => false
/-- What the check keeps of the operations behind. -/
abbrev Acc := List (Nat × Inf)
def chk (tds : List (List Nat)) (drw : Bool) (acc : Acc) (i : Nat) (f : Inf) : Bool := bif drw then acc.all (fun a => memN a.1 (tdOf tds i) || comp a.2 f) else true
section
variable {ρ : Type}
/-- One operation; in a group of guarded operations only such as leave the objects. -/
def step (tb : Tab I) (disp : Disp I) (tds : List (List Nat)) (drw pure : Bool) (acc : Acc) (s : St I) (i : Nat) (o : Oper) (k : St I → Acc → Option ρ) : Option ρ :=
  effS tb disp s i o fun e => bif okE s i e && (bif pure then isNil e.upd && isNil e.new else true) && chk tds drw acc i (infE s i o e) then k (apS s i o e) (bif drw then (i, infE s i o e) :: acc else acc) else none
end
def isPick (d : Nat) (o : Oper) : Bool := match o.op with
  | .pick (.tmp c) _ _ => Nat.beq c d
  | _ => false
/-- The first pick that closes a group of guarded operations. -/
def findPick (d : Nat) : List (Nat × Oper) → Nat → Option Nat
  | [], _ => none
  | o :: r, n => bif isPick d o.2 then some n else findPick d r (n + 1)
def isDst (l : List (Nat × Oper)) (i : Nat) : Bool := l.any fun o => match o.2.dst with
  | some d => Nat.beq d i
  | none => false
def dstAt (l : List (Nat × Oper)) (m : Nat) : Option Nat := (l[m]?).bind (·.2.dst)
def asB : Option (PV I) → Option Bool
  | some (.bool b) => some b
  | _ => none
def joinS (s : St I) (g : List (Nat × Oper)) (d : Nat) (q : Bool) : St I := ⟨s.n, upF (fun i => bif isDst g i then none else s.F i) d (.bool q), s.O, s.nx⟩
def setB (s : St I) (d : Nat) (b : Bool) : St I := ⟨s.n, upF s.F d (.bool b), s.O, s.nx⟩
def runOps (tb : Tab I) (disp : Disp I) (all : List Oper) (tds : List (List Nat)) (drw : Bool) (spl : List Nat) : Nat → (ρ : Type) → Bool → List Nat → List (Nat × Oper) → Acc → St I → (St I → Acc → Option ρ) → Option ρ
  | 0, _, _, _, _, _, _, _ => none
  | _ + 1, _, _, _, [], acc, s, k => k s acc
  | m + 1, ρ, pure, kn, o :: r, acc, s, k => match o.2.guard with
    | none => step tb disp tds drw pure acc s o.1 o.2 fun s acc => runOps tb disp all tds drw spl m ρ pure kn r acc s k
    | some (j, want) => Option.bind (dstOf all j) fun dj => bif Nat.blt dj s.n then (match s.F dj with
      | some .undef => runOps tb disp all tds drw spl m ρ pure kn r acc (put s o.2.dst .undef) k
      | some (.bool c) => bif memN dj kn
        then (bif c == want then step tb disp tds drw pure acc s o.1 o.2 fun s acc => runOps tb disp all tds drw spl m ρ pure kn r acc s k else runOps tb disp all tds drw spl m ρ pure kn r acc (put s o.2.dst .undef) k)
        else bif memN dj spl
        then (bif c then runOps tb disp all tds drw spl m ρ pure (dj :: kn) (o :: r) acc (setB s dj true) k else runOps tb disp all tds drw spl m ρ pure (dj :: kn) (o :: r) acc (setB s dj false) k)
        else Option.bind (findPick dj (o :: r) 0) fun mm => Option.bind (dstAt (o :: r) mm) fun d =>
          Option.bind (bif c
            then runOps tb disp all tds drw spl m Bool true (dj :: kn) ((o :: r).take (mm + 1)) acc (setB s dj true) fun s' _ => asB (s'.F d)
            else runOps tb disp all tds drw spl m Bool true (dj :: kn) ((o :: r).take (mm + 1)) acc (setB s dj false) fun s' _ => asB (s'.F d)) fun q =>
          runOps tb disp all tds drw spl m ρ pure kn ((o :: r).drop (mm + 1)) (bif drw then ((o :: r).take (mm + 1)).map (fun x => (x.1, ⟨none, []⟩)) ++ acc else acc) (joinS s ((o :: r).take (mm + 1)) d q) k
      | _ => none) else none

/-! ### the plain way -/
/-- What one operation does, its guard looked at. -/
def eff1 (tb : Tab I) (disp : Disp I) (all : List Oper) (s : St I) (i : Nat) (o : Oper) : Option (Option (Ef I)) :=
  match o.guard with
  | none => (effS tb disp s i o some).map some
  | some (j, want) => Option.bind (dstOf all j) fun dj => bif Nat.blt dj s.n then (match s.F dj with
    | some .undef => some none
    | some (.bool c) => bif c == want then (effS tb disp s i o some).map some else some none
    | _ => none) else none
def ap1 (s : St I) (i : Nat) (o : Oper) : Option (Ef I) → St I
  | some e => apS s i o e
  | none => put s o.dst .undef
def ok1 (s : St I) (i : Nat) : Option (Ef I) → Bool
  | some e => okE s i e
  | none => true
def inf1 (s : St I) (i : Nat) (o : Oper) : Option (Ef I) → Inf
  | some e => infE s i o e
  | none => ⟨some [], []⟩
inductive Flat1 (tb : Tab I) (disp : Disp I) (all : List Oper) : St I → List (Nat × Oper) → St I → Acc → Prop
  | nil (s : St I) : Flat1 tb disp all s [] s []
  | cons (s : St I) (i : Nat) (o : Oper) (r : Option (Ef I)) (rest : List (Nat × Oper)) (s' : St I) (es : Acc) (h1 : eff1 tb disp all s i o = some r) (h2 : ok1 s i r = true)
      (h3 : Flat1 tb disp all (ap1 s i o r) rest s' es) : Flat1 tb disp all s ((i, o) :: rest) s' ((i, inf1 s i o r) :: es)
variable {P : Program} {tb : Tab I} {disp : Disp I} {all : List Oper} {tds : List (List Nat)} {drw : Bool} {spl : List Nat} {X : Cxt} {c c' : Cx} {σ τ : S}
theorem Flat1.app {s s' s'' : St I} {l1 l2 : List (Nat × Oper)} {e1 e2 : Acc} (h : Flat1 tb disp all s l1 s' e1) (k : Flat1 tb disp all s' l2 s'' e2) : Flat1 tb disp all s (l1 ++ l2) s'' (e1 ++ e2) := by
  induction h with
  | nil s => exact k
  | cons s i o r rest s' es h1 h2 h3 ih => exact .cons s i o r _ _ _ h1 h2 (ih k)
theorem Flat1.mem {s s' : St I} {l : List (Nat × Oper)} {es : Acc} (h : Flat1 tb disp all s l s' es) : ∀ x ∈ es, ∃ y ∈ l, y.1 = x.1 := by
  induction h with
  | nil s => intro x hx; cases hx
  | cons s i o r rest s' es h1 h2 h3 ih =>
    intro x hx
    rcases List.mem_cons.1 hx with rfl | hx
    · exact ⟨(i, o), by simp, rfl⟩
    · obtain ⟨y, h1, h2⟩ := ih x hx
      exact ⟨y, by simp [h1], h2⟩
/-- Two operations, the first before the second. -/
def R (tds : List (List Nat)) (a b : Nat × Inf) : Prop := memN a.1 (tdOf tds b.1) = true ∨ comp a.2 b.2 = true
def Wk (f' f : Inf) : Prop := f'.W = f.W ∧ (f'.T = none ∨ f'.T = f.T)
def Cov (acc es : Acc) : Prop := ∀ x ∈ es, x.2 = ⟨some [], []⟩ ∨ ∃ f', (x.1, f') ∈ acc ∧ Wk f' x.2
theorem disjT_wk {w : List Nat} {f' f : Inf} (h : Wk f' f) (k : disjT w f'.T = true) : disjT w f.T = true := by
  rcases h.2 with e | e
  · rw [e] at k
    simp only [disjT, List.isEmpty_iff] at k
    subst k
    cases f.T <;> rfl
  · rw [e] at k; exact k
theorem comp_wk {f' f g : Inf} (h : Wk f' f) (k : comp f' g = true) : comp f g = true := by
  simp only [comp, Bool.and_eq_true] at k ⊢
  rw [h.1] at k
  exact ⟨⟨k.1.1, k.1.2⟩, disjT_wk h k.2⟩
theorem comp_nil (g : Inf) : comp ⟨some [], []⟩ g = true := by
  simp only [comp, Bool.and_eq_true]
  refine ⟨⟨rfl, ?_⟩, ?_⟩
  · cases g.T <;> rfl
  · exact disj_iff.2 fun x _ => by simp
theorem chk_ok {acc es : Acc} (hc : Cov acc es) {i : Nat} {f : Inf} (h : chk tds true acc i f = true) : ∀ a ∈ es, R tds a (i, f) := by
  intro a ha
  simp only [chk, cond_true, List.all_eq_true, Bool.or_eq_true] at h
  rcases hc a ha with e | ⟨f', h1, h2⟩
  · right
    rw [e]
    exact comp_nil f
  · rcases h _ h1 with k | k
    · exact .inl k
    · exact .inr (comp_wk h2 k)
structure Ref (s1 s2 : St I) : Prop where
  n : s1.n = s2.n
  O : s1.O = s2.O
  nx : s1.nx = s2.nx
  F : ∀ i p, s2.F i = some p → s1.F i = some p
theorem effS_bind (hd : DispOk P disp) {s : St I} {i : Nat} {o : Oper} {ρ : Type} (k : Ef I → Option ρ) : effS tb disp s i o k = (effS tb disp s i o some).bind k := by
  unfold effS
  cases (slotsOf o.op).all (fun t => (s.F t).isSome)
  · rfl
  · exact eff_bind hd k
omit [∀ E, Rp (I E)] in
theorem numsF_eq {F G : Nat → Option (PV I)} : ∀ {ts : List Nat}, (∀ t ∈ ts, F t = G t) → numsF F ts = numsF G ts
  | [], _ => rfl
  | t :: r, h => by simp only [numsF]; rw [h t (by simp), numsF_eq fun u hu => h u (by simp [hu])]
omit [∀ E, Rp (I E)] in
theorem resF_eq {F G : Nat → Option (PV I)} {ts : List Nat} (h : ∀ t ∈ ts, F t = G t) : resF F ts = resF G ts := by
  funext i
  simp only [resF]
  cases hm : memN i ts
  · rfl
  · exact h i (memN_iff.1 hm)
theorem effS_ref {s1 s2 : St I} (hr : Ref s1 s2) {i : Nat} {o : Oper} {e : Ef I} (h : effS tb disp s2 i o some = some e) : effS tb disp s1 i o some = some e ∧ infE s1 i o e = infE s2 i o e ∧ okE s1 i e = okE s2 i e := by
  unfold effS at h ⊢
  obtain ⟨h1, h2⟩ := bif_some h
  have hF : ∀ t ∈ slotsOf o.op, s1.F t = s2.F t := fun t ht => by
    have := (List.all_eq_true.1 h1) t ht
    obtain ⟨p, hp⟩ := Option.isSome_iff_exists.1 this
    rw [hp, hr.F t p hp]
  have e1 : (slotsOf o.op).all (fun t => (s1.F t).isSome) = true := by
    rw [List.all_eq_true] at h1 ⊢
    exact fun t ht => by rw [hF t ht]; exact h1 t ht
  have e2 : touchO s1.F s1.O o.op = touchO s2.F s2.O o.op := by
    simp only [touchO, touch, numsF_eq hF, hr.O]
  have e3 : nbOf s1 i = nbOf s2 i := by simp only [nbOf, hr.nx]
  refine ⟨?_, ?_, ?_⟩
  · rw [e1, resF_eq hF, e2, e3, hr.O, hr.n]; exact h2
  · simp only [infE, e2, e3]
  · simp only [okE, e3, hr.O]
omit [∀ E, Rp (I E)] in
theorem Ref.put {s1 s2 : St I} (h : Ref s1 s2) (d : Option Nat) (p : PV I) : Ref (Qx.put s1 d p) (Qx.put s2 d p) := by
  cases d with
  | none => exact h
  | some d =>
    refine ⟨h.n, h.O, h.nx, fun i q hq => ?_⟩
    rcases upF_some hq with ⟨rfl, rfl⟩ | ⟨e, hq⟩
    · exact upF_self _ _ _
    · have : (Qx.put s1 (some d) p).F i = s1.F i := upF_ne e
      rw [this]
      exact h.F i q hq
omit [∀ E, Rp (I E)] in
theorem Ref.apS {s1 s2 : St I} (h : Ref s1 s2) (i : Nat) (o : Oper) (e : Ef I) : Ref (Qx.apS s1 i o e) (Qx.apS s2 i o e) := by
  have hE : Ref (apE s1 (nbOf s1 i) e) (apE s2 (nbOf s2 i) e) := ⟨h.n, by
    show addO (apU s1.O e.upd) (nbOf s1 i) e.new = addO (apU s2.O e.upd) (nbOf s2 i) e.new
    simp only [nbOf, h.nx, h.O], h.nx, h.F⟩
  exact hE.put o.dst e.p
omit [∀ E, Rp (I E)] in
theorem put_keep {s : St I} {d : Option Nat} {p : PV I} {i : Nat} (h : d ≠ some i) : (put s d p).F i = s.F i := by
  cases d with
  | none => rfl
  | some d => exact upF_ne (fun e => h (by rw [e]))
theorem isDst_app {l1 l2 : List (Nat × Oper)} {i : Nat} (h : isDst (l1 ++ l2) i = false) : isDst l1 i = false ∧ isDst l2 i = false := by
  simpa [isDst] using h
theorem isDst_cons {o : Nat × Oper} {l : List (Nat × Oper)} {i : Nat} (h : isDst (o :: l) i = false) : o.2.dst ≠ some i ∧ isDst l i = false := by
  simp only [isDst, List.any_cons, Bool.or_eq_false_iff] at h
  refine ⟨fun e => ?_, h.2⟩
  have := h.1
  rw [e] at this
  simp at this
theorem dst_in {l : List (Nat × Oper)} {mm d : Nat} (h : dstAt l mm = some d) : isDst (l.take (mm + 1)) d = true := by
  simp only [dstAt] at h
  cases ho : l[mm]? with
  | none => rw [ho] at h; cases h
  | some o =>
    rw [ho] at h
    simp only [Option.bind_some] at h
    simp only [isDst, List.any_eq_true]
    refine ⟨o, ?_, by rw [h]; simp⟩
    exact List.mem_of_getElem? (i := mm) (by rw [List.getElem?_take_of_lt (by omega)]; exact ho)
omit [∀ E, Rp (I E)] in
theorem asB_some {o : Option (PV I)} {b : Bool} (h : asB o = some b) : o = some (.bool b) := by
  unfold asB at h
  split at h
  · cases h; rfl
  · cases h
theorem isNil_ok {α : Type} {l : List α} (h : isNil l = true) : l = [] := by
  cases l
  · rfl
  · cases h
/-- What the executor's way through a stretch of a region comes to. -/
structure Way (tb : Tab I) (disp : Disp I) (all : List Oper) (tds : List (List Nat)) (drw pure : Bool) (l : List (Nat × Oper)) (s1 s2 : St I) (es0 : Acc) (s1' s2' : St I) (acc' es : Acc) : Prop where
  flat : Flat1 tb disp all s1 l s1' es
  ref : Ref s1' s2'
  keep1 : ∀ i, isDst l i = false → s1'.F i = s1.F i
  keep2 : ∀ i, isDst l i = false → s2'.F i = s2.F i
  pu : pure = true → s1'.O = s1.O ∧ s2'.O = s2.O ∧ s1'.nx = s1.nx ∧ s1'.n = s1.n ∧ ∀ x ∈ es, x.2.W = []
  new : drw = true → ∀ b ∈ es, ∀ a ∈ es0, R tds a b
  pair : drw = true → es.Pairwise (R tds)
  cov : drw = true → Cov acc' (es0 ++ es)
theorem Way.cons {pure : Bool} {i : Nat} {o : Oper} {r : List (Nat × Oper)} {s1 s2 t1 t2 s1' s2' : St I} {es0 acc' es : Acc} {f : Inf} (h0 : Way tb disp all tds drw pure [(i, o)] s1 s2 es0 t1 t2 [] [(i, f)] ∨ True)
    (hflat : ∀ u v, Flat1 tb disp all t1 r u v → Flat1 tb disp all s1 ((i, o) :: r) u ((i, f) :: v)) (hk1 : ∀ j, o.dst ≠ some j → t1.F j = s1.F j) (hk2 : ∀ j, o.dst ≠ some j → t2.F j = s2.F j)
    (hpu : pure = true → t1.O = s1.O ∧ t2.O = s2.O ∧ t1.nx = s1.nx ∧ t1.n = s1.n ∧ f.W = []) (hnew : drw = true → ∀ a ∈ es0, R tds a (i, f))
    (h : Way tb disp all tds drw pure r t1 t2 (es0 ++ [(i, f)]) s1' s2' acc' es) : Way tb disp all tds drw pure ((i, o) :: r) s1 s2 es0 s1' s2' acc' ((i, f) :: es) := by
  refine ⟨hflat _ _ h.flat, h.ref, fun j hj => ?_, fun j hj => ?_, fun hp => ?_, fun hd b hb a ha => ?_, fun hd => ?_, fun hd => ?_⟩
  · obtain ⟨a, b⟩ := isDst_cons hj
    exact (h.keep1 j b).trans (hk1 j a)
  · obtain ⟨a, b⟩ := isDst_cons hj
    exact (h.keep2 j b).trans (hk2 j a)
  · obtain ⟨a1, a2, a3, a4, a5⟩ := h.pu hp
    obtain ⟨b1, b2, b3, b4, b5⟩ := hpu hp
    refine ⟨a1.trans b1, a2.trans b2, a3.trans b3, a4.trans b4, fun x hx => ?_⟩
    rcases List.mem_cons.1 hx with rfl | hx
    · exact b5
    · exact a5 x hx
  · rcases List.mem_cons.1 hb with rfl | hb
    · exact hnew hd a ha
    · exact h.new hd b hb a (by simp [ha])
  · exact List.pairwise_cons.2 ⟨fun b hb => h.new hd b hb _ (by simp), h.pair hd⟩
  · have := h.cov hd
    simpa using this
theorem run_flat (hd : DispOk P disp) : ∀ (m : Nat) (ρ : Type) (pure : Bool) (kn : List Nat) (l : List (Nat × Oper)) (acc : Acc) (s2 : St I) (k : St I → Acc → Option ρ) (r : ρ) (s1 : St I) (es0 : Acc),
    runOps tb disp all tds drw spl m ρ pure kn l acc s2 k = some r → Ref s1 s2 → (drw = true → Cov acc es0) → ∃ s1' s2' acc' es, k s2' acc' = some r ∧ Way tb disp all tds drw pure l s1 s2 es0 s1' s2' acc' es
  | 0, _, _, _, _, _, _, _, _, _, _, h, _, _ => by cases h
  | m + 1, ρ, pure, kn, [], acc, s2, k, r, s1, es0, h, hr, hc => ⟨s1, s2, acc, [], h, .nil _, hr, fun _ _ => rfl, fun _ _ => rfl, (fun _ => ⟨rfl, rfl, rfl, rfl, fun x hx => by cases hx⟩), (fun _ b hb => by cases hb), (fun _ => List.Pairwise.nil), fun hd => by simpa using hc hd⟩
  | m + 1, ρ, pure, kn, (i, o) :: l, acc, s2, k, r, s1, es0, h, hr, hc => by
    have hstep : (∀ e, effS tb disp s1 i o some = some e → eff1 tb disp all s1 i o = some (some e)) → (step tb disp tds drw pure acc s2 i o fun s acc => runOps tb disp all tds drw spl m ρ pure kn l acc s k) = some r →
        ∃ s1' s2' acc' es, k s2' acc' = some r ∧ Way tb disp all tds drw pure ((i, o) :: l) s1 s2 es0 s1' s2' acc' es := by
      intro he1 h
      unfold step at h
      rw [effS_bind hd] at h
      obtain ⟨e, he, h⟩ := bind_some h
      obtain ⟨hb, h⟩ := bif_some h
      simp only [Bool.and_eq_true] at hb
      obtain ⟨⟨b1, b2⟩, b3⟩ := hb
      obtain ⟨k1, k2, k3⟩ := effS_ref hr he
      have hcov : drw = true → Cov (bif drw then (i, infE s2 i o e) :: acc else acc) (es0 ++ [(i, infE s1 i o e)]) := fun hd x hx => by
        rw [hd]
        rcases List.mem_append.1 hx with hx | hx
        · rcases hc hd x hx with e | ⟨f', a1, a2⟩
          · exact .inl e
          · exact .inr ⟨f', by simp [a1], a2⟩
        · rw [List.mem_singleton] at hx
          subst hx
          exact .inr ⟨infE s2 i o e, by simp, by rw [k2]; exact ⟨rfl, .inr rfl⟩⟩
      obtain ⟨s1', s2', acc', es, a1, a2⟩ := run_flat hd m ρ pure kn l _ _ k r (apS s1 i o e) _ h (hr.apS i o e) hcov
      refine ⟨s1', s2', acc', _, a1, Way.cons (t1 := apS s1 i o e) (t2 := apS s2 i o e) (.inr trivial) (fun u v hf => .cons s1 i o (some e) l u v (he1 e k1) (by simp only [ok1, k3, b1]) hf) (fun j hj => put_keep hj) (fun j hj => put_keep hj) (fun hp => ?_) (fun hd a ha => ?_) a2⟩
      · rw [hp] at b2
        simp only [cond_true, Bool.and_eq_true] at b2
        have e1 := isNil_ok b2.1
        have e2 := isNil_ok b2.2
        obtain ⟨p, u, w⟩ := e
        simp only at e1 e2
        subst e1
        subst e2
        refine ⟨?_, ?_, ?_, ?_, rfl⟩
        all_goals
          unfold apS put
          cases o.dst <;> rfl
      · rw [hd] at b3
        have := chk_ok (hc hd) b3 a ha
        rw [← k2] at this
        exact this
    have hskip : eff1 tb disp all s1 i o = some none → runOps tb disp all tds drw spl m ρ pure kn l acc (put s2 o.dst .undef) k = some r →
        ∃ s1' s2' acc' es, k s2' acc' = some r ∧ Way tb disp all tds drw pure ((i, o) :: l) s1 s2 es0 s1' s2' acc' es := by
      intro he1 h
      have hcov : drw = true → Cov acc (es0 ++ [(i, ⟨some [], []⟩)]) := fun hd x hx => by
        rcases List.mem_append.1 hx with hx | hx
        · exact hc hd x hx
        · rw [List.mem_singleton] at hx
          subst hx
          exact .inl rfl
      obtain ⟨s1', s2', acc', es, a1, a2⟩ := run_flat hd m ρ pure kn l _ _ k r (put s1 o.dst .undef) _ h (hr.put o.dst .undef) hcov
      refine ⟨s1', s2', acc', _, a1, Way.cons (t1 := put s1 o.dst .undef) (t2 := put s2 o.dst .undef) (.inr trivial) (fun u v hf => .cons s1 i o none l u v he1 rfl hf) (fun j hj => put_keep hj) (fun j hj => put_keep hj) (fun hp => ?_) (fun hd a ha => .inr (comp_symm (comp_nil _))) a2⟩
      refine ⟨?_, ?_, ?_, ?_, rfl⟩
      all_goals
        unfold put
        cases o.dst <;> rfl
    simp only [runOps] at h
    cases hg : o.guard with
    | none =>
      rw [hg] at h
      exact hstep (fun e he => by simp only [eff1, hg, he]; rfl) h
    | some g =>
      obtain ⟨j, want⟩ := g
      rw [hg] at h
      obtain ⟨dj, hdj, h⟩ := bind_some h
      obtain ⟨hlt, h⟩ := bif_some h
      split at h
      · rename_i hl
        exact hskip (by simp only [eff1, hg, hdj, Option.bind_some]; rw [hr.n, hlt, hr.F _ _ hl]; rfl) h
      · rename_i b hl
        have hl1 := hr.F _ _ hl
        have he1 : (b == want) = true → ∀ e, effS tb disp s1 i o some = some e → eff1 tb disp all s1 i o = some (some e) := fun hb e he => by
          simp only [eff1, hg, hdj, Option.bind_some]; rw [hr.n, hlt, hl1]; simp only [cond_true, hb, he]; rfl
        have he0 : (b == want) = false → eff1 tb disp all s1 i o = some none := fun hb => by
          simp only [eff1, hg, hdj, Option.bind_some]; rw [hr.n, hlt, hl1]; simp only [cond_true, hb]; rfl
        cases hkn : memN dj kn with
        | true =>
          rw [hkn] at h
          simp only [cond_true] at h
          cases hbw : (b == want) with
          | true =>
            rw [hbw] at h
            exact hstep (he1 hbw) h
          | false =>
            rw [hbw] at h
            exact hskip (he0 hbw) h
        | false =>
          rw [hkn] at h
          simp only [cond_false] at h
          have hsame : setB s2 dj b = s2 := by
            have : upF s2.F dj (.bool b) = s2.F := by
              funext i
              by_cases e : i = dj
              · subst e; rw [upF_self, hl]
              · rw [upF_ne e]
            simp only [setB, this]
          cases hspl : memN dj spl with
          | true =>
            rw [hspl] at h
            simp only [cond_true] at h
            refine run_flat hd m ρ pure (dj :: kn) _ acc s2 k r s1 es0 ?_ hr hc
            cases b
            · rw [hsame] at h; exact h
            · rw [hsame] at h; exact h
          | false =>
          rw [hspl] at h
          simp only [cond_false] at h
          obtain ⟨mm, hmm, h⟩ := bind_some h
          obtain ⟨d, hdd, h⟩ := bind_some h
          obtain ⟨q, hq, h⟩ := bind_some h
          have hq' : runOps tb disp all tds drw spl m Bool true (dj :: kn) (((i, o) :: l).take (mm + 1)) acc s2 (fun s' _ => asB (s'.F d)) = some q := by
            cases b
            · rw [hsame] at hq; exact hq
            · rw [hsame] at hq; exact hq
          obtain ⟨u1, u2, accg, eg, g1, g2⟩ := run_flat hd m Bool true (dj :: kn) _ acc s2 _ q s1 es0 hq' hr hc
          have hd2 := asB_some g1
          obtain ⟨p1, p2, p3, p4, p5⟩ := g2.pu rfl
          have hrn : Ref u1 (joinS s2 (((i, o) :: l).take (mm + 1)) d q) := by
            refine ⟨p4.trans hr.n, p1.trans hr.O, p3.trans hr.nx, fun x p hx => ?_⟩
            have hx' : upF (fun i' => bif isDst (((i, o) :: l).take (mm + 1)) i' then none else s2.F i') d (.bool q) x = some p := hx
            clear hx
            rcases upF_some hx' with ⟨rfl, rfl⟩ | ⟨e, hx⟩
            · exact g2.ref.F _ _ hd2
            · cases hdst : isDst (((i, o) :: l).take (mm + 1)) x with
              | true => rw [hdst] at hx; cases hx
              | false =>
                rw [hdst] at hx
                rw [g2.keep1 x hdst]
                exact hr.F x p hx
          have hcov : drw = true → Cov (bif drw then (((i, o) :: l).take (mm + 1)).map (fun x => (x.1, ⟨none, []⟩)) ++ acc else acc) (es0 ++ eg) := fun hd x hx => by
            rw [hd]
            rcases List.mem_append.1 hx with hx | hx
            · rcases hc hd x hx with e | ⟨f', a1, a2⟩
              · exact .inl e
              · exact .inr ⟨f', by simp only [cond_true, List.mem_append]; exact .inr a1, a2⟩
            · refine .inr ⟨⟨none, []⟩, ?_, ?_⟩
              · obtain ⟨y, h1, h2⟩ := g2.flat.mem x hx
                simp only [cond_true, List.mem_append, List.mem_map]
                exact .inl ⟨y, h1, by rw [h2]⟩
              · exact ⟨(p5 x hx).symm, .inl rfl⟩
          obtain ⟨s1', s2', acc', es, a1, a2⟩ := run_flat hd m ρ pure kn _ _ _ k r u1 (es0 ++ eg) h hrn hcov
          have hsplit : (i, o) :: l = ((i, o) :: l).take (mm + 1) ++ ((i, o) :: l).drop (mm + 1) := (List.take_append_drop _ _).symm
          refine ⟨s1', s2', acc', eg ++ es, a1, ?_⟩
          rw [hsplit]
          refine ⟨g2.flat.app a2.flat, a2.ref, fun x hx => ?_, fun x hx => ?_, fun hp => ?_, fun hd b hb a ha => ?_, fun hd => ?_, fun hd => ?_⟩
          · obtain ⟨x1, x2⟩ := isDst_app hx
            exact (a2.keep1 x x2).trans (g2.keep1 x x1)
          · obtain ⟨x1, x2⟩ := isDst_app hx
            rw [a2.keep2 x x2]
            have hxd : x ≠ d := by rintro rfl; rw [dst_in hdd] at x1; cases x1
            have : (joinS s2 (((i, o) :: l).take (mm + 1)) d q).F x = bif isDst (((i, o) :: l).take (mm + 1)) x then none else s2.F x := by
              simp only [joinS]
              rw [upF_ne hxd]
            rw [this, x1]
            rfl
          · obtain ⟨b1, b2, b3, b4, b5⟩ := a2.pu hp
            refine ⟨b1.trans p1, b2, b3.trans p3, b4.trans p4, fun x hx => ?_⟩
            rcases List.mem_append.1 hx with hx | hx
            · exact p5 x hx
            · exact b5 x hx
          · rcases List.mem_append.1 hb with hb | hb
            · exact g2.new hd b hb a ha
            · exact a2.new hd b hb a (by simp [ha])
          · rw [List.pairwise_append]
            exact ⟨g2.pair hd, a2.pair hd, fun a ha b hb => a2.new hd b hb a (by simp [ha])⟩
          · have := a2.cov hd
            simpa using this
      · cases h
end
end Go.Qx
