/- Part 2. -/
import Derived.Test.YtcbgcnbnnodhdaaGreatK0
import Derived.Test.YtcbgcnbnnodhdaaGreatK1
import Derived.ChangeKeysEq
import Derived.KernelRfl
import Derived.Lib.Bytealg
import Derived.Shelf.SlSortCmp.NoneTotal
import Derived.Shelf.Slices.In.SortNone
import Derived.Shelf.Sort.Plain
section
namespace Go.Qx
open Go Go.RowKit Go.Sx
section
variable {I : TypeId -> Type} [∀ E, Rp (I E)]
def b5o (rs : List V) (p : PV I) : Option (List (PV I)) := match rs with
 | [_] => some [p]
 | _ => match p with
   | .tup ls => some ls
   | _ => none
def b3J (tb : Tab I) : (ks : List Kd) -> Tys I ks -> List (PV I)
 | [], _ => []
 | k :: ks, q => a6g tb k q.1 :: b3J tb ks q.2
def b72 (tb : Tab I) (rs : List V) (e : Ef I) : Option (TyT I rs) :=
 bif a2R e.upd && a2R e.new then Option.bind (b5o rs e.p) fun ps => Option.bind (a0y tb (fun _ => none) rs ps) fun x => bif a2R x.2.1 && a2R x.2.2 then some x.1 else none else none
def b3a (tb : Tab I) (disp : K6 I) (O : Obs I) (nb : Nat) (f : FuncId) (ls : List (PV I)) (ks : List Kd) (rs : List V) : Fun I ks (TyT I rs) := cur ks fun q => disp (TyT I rs) f O nb (b3J tb ks q ++ ls) (b72 tb rs)
structure AccT where
 pub : List Nat
 all : List (Option Nat)
 gv : List (Nat × TypeId × V)
 rv : List Nat
def b3g (ks : List Kd) (rs : List V) (ks' : List Kd) (rs' : List V) (g : Fun I ks' (TyT I rs')) : Option (Fun I ks (TyT I rs)) := if h : ks' = ks /\ rs' = rs then some (h.1 ▸ h.2 ▸ g) else none
def b6b (tb : Tab I) (O : Obs I) (T : TypeId) (v : V) (w : Bool) (p : PV I) : Option (TyV I v × AccT) := match p with
 | .ptr l 0 => match O l with
   | some (some (.var T' ls w')) => bif Nat.beq T T' && (w' || !w) then Option.bind (a8E v ls) fun p => Option.bind (a9D tb O v p) fun x =>
      bif w then some (x.1, ⟨x.2.1, some l :: x.2.2, [(l, T, v)], []⟩) else bif a2R x.2.2 then some (x.1, ⟨x.2.1, [none], [], [l]⟩) else none else none
   | _ => none
 | _ => none
def b3G (O : Obs I) (E : TypeId) (p : PV I) : Option (List (I E) × List Nat) := match p with
 | .vw l => match O l with
   | some (some (.row E' xs _)) => Option.bind (a01 E E' xs) fun ys => some (ys, [l])
   | some (some (.ro E' xs)) => Option.bind (a01 E E' xs) fun ys => some (ys, [])
   | some (some (.bo E' xs)) => Option.bind (a01 E E' xs) fun ys => some (ys, [])
   | _ => none
 | .sl E' xs _ => Option.bind (a01 E E' xs) fun ys => some (ys, [])
 | .nl _ => some ([], [])
 | _ => none
def a4i (tb : Tab I) (disp : K6 I) (O Oc : Obs I) (nb : Nat) : (ps : List Pk) -> List (PV I) -> Option (X4 I ps × AccT)
 | [], [] => some ((), ⟨[], [], [], []⟩)
 | .d k :: r, p :: ps => Option.bind (a98 tb O k p) fun x => Option.bind (a4i tb disp O Oc nb r ps) fun y => some ((x.1, y.1), ⟨x.2 ++ y.2.pub, y.2.all, y.2.gv, y.2.rv⟩)
 | .var T v w :: r, p :: ps => Option.bind (b6b tb O T v w p) fun x => Option.bind (a4i tb disp O Oc nb r ps) fun y => some ((x.1, y.1), ⟨x.2.pub ++ y.2.pub, x.2.all ++ y.2.all, x.2.gv ++ y.2.gv, x.2.rv ++ y.2.rv⟩)
 | .row E fl :: r, p :: ps => Option.bind (a4K tb O (.row E fl) p) fun x => Option.bind (a4i tb disp O Oc nb r ps) fun y => some ((x.1, y.1), ⟨x.2.1 ++ y.2.pub, x.2.2 ++ y.2.all, y.2.gv, y.2.rv⟩)
 | .fn ks rs :: r, p :: ps => Option.bind (a4i tb disp O Oc nb r ps) fun y => match p with
   | .fn ks' rs' g => Option.bind (b3g ks rs ks' rs' g) fun g' => some ((g', y.1), y.2)
   | .clo f ls => bif tb.fb f then some ((b3a tb disp Oc nb f ls ks rs, y.1), y.2) else none
   | _ => none
 | .bor E :: r, p :: ps => Option.bind (b3G O E p) fun x => Option.bind (a4i tb disp O Oc nb r ps) fun y => some ((x.1, y.1), ⟨y.2.pub, none :: y.2.all, y.2.gv, x.2 ++ y.2.rv⟩)
 | _, _ => none
def grN (O : Obs I) : List Pk -> List (PV I) -> List Nat
 | .var _ _ true :: r, .ptr l _ :: ps => (l :: nest O [l]) ++ grN O r ps
 | .row _ _ :: r, p :: ps => b4J p ++ grN O r ps
 | _ :: r, _ :: ps => grN O r ps
 | _, _ => []
def a0m : List (Option Nat) -> List (Nat × Option (Ob I))
 | [] => []
 | some l :: r => (l, none) :: a0m r
 | none :: r => a0m r
def a19 : List (Nat × TypeId × V) -> List (PV I) -> List (Nat × Option (Ob I))
 | x :: r, p :: ps => (x.1, some (.var x.2.1 (a2j x.2.2 p) true)) :: a19 r ps
 | _, _ => []
def b1t (gr : List Nat) (a : AccT) : Bool := a2E a.pub a.all && a.all.all (fun x => match x with | some l => Y3 l gr | none => true) && a.rv.all (fun l => !(Y3 l gr))
def b2v (tb : Tab I) (r : Row I) (disp : K6 I) (ρ : Type) (O : Obs I) (nb : Nat) (ps : List (PV I)) (k : Ef I -> Option ρ) : Option ρ :=
 Option.bind (a4i tb disp O (roO [] (v8 (grN O r.ps ps) O)) nb r.ps ps) fun a =>
 bif b1t (grN O r.ps ps) a.2 then Option.bind (a5C r.ps r.run a.1) fun res =>
  k ⟨a4N ((pvT tb nb (r.rs ++ k8 r.ps) res).take r.rs.length), Z0 O a.2.pub ++ a0m a.2.all ++ a19 a.2.gv ((pvT tb nb (r.rs ++ k8 r.ps) res).drop r.rs.length), obT (r.rs ++ k8 r.ps) res⟩ else none
structure Ans (I : TypeId -> Type) where
 f : FuncId
 go : K6 I -> (ρ : Type) -> Obs I -> Nat -> List (PV I) -> (Ef I -> Option ρ) -> Option ρ
structure EntOk (P : Program) (e : Ans I) : Prop where
 par : ∀ (disp : K6 I) (ρ : Type) (O : Obs I) (nb : Nat) (ps : List (PV I)) (k : Ef I -> Option ρ), e.go disp ρ O nb ps k = (e.go disp (Ef I) O nb ps some).bind k
 ok : ∀ (disp : K6 I), DispOk P disp -> ∀ (O : Obs I) (nb : Nat) (ps : List (PV I)) (ef : Ef I), e.go disp (Ef I) O nb ps some = some ef -> b58 P e.f O nb ps ef
def b0w (f : FuncId) : List (Ans I) -> Option (Ans I)
 | [] => none
 | e :: r => bif Nat.beq e.f f then some e else b0w f r
def b2r (es : List (Ans I)) : Nat -> K6 I
 | 0 => fun _ _ _ _ _ _ => none
 | d + 1 => fun ρ f O nb ps k => match b0w f es with
   | some e => e.go (b2r es d) ρ O nb ps k
   | none => none
def j0 (tb : Tab I) (r : Row I) : Ans I := ⟨r.f, b2v tb r⟩
def a6T (tb : Tab I) (r : Row I) (chk : Obs I -> List (PV I) -> Bool) (disp : K6 I) (ρ : Type) (O : Obs I) (nb : Nat) (ps : List (PV I)) (k : Ef I -> Option ρ) : Option ρ := bif chk O ps then b2v tb r disp ρ O nb ps k else none
def b5k (tb : Tab I) (r : Row I) (chk : Obs I -> List (PV I) -> Bool) : Ans I := ⟨r.f, a6T tb r chk⟩
def b6p (P : Program) : List (Ans I) -> Prop
 | [] => True
 | e :: r => EntOk P e /\ b6p P r
variable {P : Program} {tb : Tab I} {X : Cxt} {c c' : Cx} {σ τ : S} {s : St I} {n : Nat} {F : Fr} {O : Obs I}
theorem a9A {f : FuncId} : ∀ {es : List (Ans I)} {e : Ans I}, b6p P es -> b0w f es = some e -> EntOk P e /\ e.f = f
 | [], _, _, h => by cases h
 | x :: r, e, ha, h => by
   simp only [b0w] at h
   cases hb : Nat.beq x.f f with
   | true => rw [hb] at h; cases h; exact ⟨ha.1, Nat.eq_of_beq_eq_true hb⟩
   | false => rw [hb] at h; exact a9A ha.2 h
theorem y2 {es : List (Ans I)} (h : b6p P es) : ∀ d, DispOk P (b2r es d)
 | 0 => ⟨fun _ _ _ _ _ _ => rfl, fun _ _ _ _ _ h => by cases h⟩
 | d + 1 => by
   refine ⟨fun ρ f O nb ps k => ?_, fun f O nb ps e he => ?_⟩
   ·simp only [b2r]
    cases hf : b0w f es with
    | none => rfl
    | some e => exact (a9A h hf).1.par _ _ _ _ _ _
   ·simp only [b2r] at he
    split at he
    ·rename_i x hx
     obtain ⟨h1, h2⟩ := a9A h hx
     rw [<- h2]
     exact h1.ok _ (y2 h d) O nb ps e he
    ·cases he
theorem b35 (ht : TabOk P tb) : ∀ {ks : List Kd} {q : Tys I ks} {vs : List Value}, DVs σ ks q vs -> RVs X c σ (b3J tb ks q) vs
 | [], _, _, h => by simpa only [b3J, RVs, DVs] using h
 | k :: ks, q, _, ⟨v, r, e, h1, h2⟩ => by
   simp only [b3J, RVs]
   exact ⟨v, r, e, b1B ht h1, b35 ht h2⟩
omit [∀ E, Rp (I E)] in
theorem b2X : ∀ {vs : List V} {ps : List (PV I)} {x}, a0y tb O vs ps = some x -> ps.length = vs.length
 | [], [], _, _ => rfl
 | [_], [_], _, _ => rfl
 | _ :: v' :: vs, p :: ps, _, h => by
   obtain ⟨y, hy, h⟩ := bind_some h
   obtain ⟨z, hz, h⟩ := bind_some h
   have := b2X (vs := v' :: vs) hz
   simp [this]
 | [], _ :: _, _, h => by simp [a0y] at h
 | [_], [], _, h => by simp [a0y] at h
 | [_], _ :: _ :: _, _, h => by simp [a0y] at h
 | _ :: _ :: _, [], _, h => by simp [a0y] at h
theorem b8G (ht : TabOk P tb) {disp : K6 I} (hd : DispOk P disp) (hX : X.P = P) (h : Rel X c σ s n F) {gr : List Nat} {Oc : Obs I} (hOc : ∀ l o, Oc l = some (some o) -> roO [] (v8 gr s.O) l = some (some o)) {M : Nat -> Prop}
 (hM : ∀ b, M b -> σ.N <= b \/ ∃ l ∈ gr, k9 s l /\ ∃ p, c l = some p /\ p.w = some b) {nb : Nat} {f : FuncId} {ls : List (PV I)} {cs : List Value} (hl : RVs X c σ ls cs) {ks : List Kd} {rs : List V} (hbody : a3V P f) : b69 P M σ f [] cs ks rs (b3a tb disp Oc nb f ls ks rs) := by
 refine ⟨hbody, rfl, fun τ hτ q vs r hq hr => ?_⟩
 unfold b3a at hr
 rw [b4g, hd.par] at hr
 obtain ⟨e, he, hr⟩ := bind_some hr
 have hMX : ∀ b, M b -> X.M b := fun b hb => by
  rcases hM b hb with hb | ⟨l, _, hlv, p, hc, hw⟩
  ·exact .inl (Nat.le_trans h.base hb)
  ·exact h.mine l p b hlv hc hw
 have h1 : Rel X c σ ⟨s.n, s.F, v8 gr s.O, s.nx⟩ n F := h.less (fun l o ho => (v7 ho).2) (fun l ho => a0d.1 ho)
 have hi1 : ∀ g, M g -> notIn c σ (⟨s.n, s.F, v8 gr s.O, s.nx⟩ : St I) g := fun g hg => by
  rcases hM g hg with hb | ⟨l', hl', hlv, p', hc', hw'⟩
  ·exact (h.fresh hb).sub fun l E E' u xs q e => (v7 e).2
  ·exact (h.owned hlv hc' hw').sub fun l E E' u xs q e => (v7 e).2
 have h2 : Rel X c τ ⟨s.n, s.F, v8 gr s.O, s.nx⟩ n F := h1.stepG hτ hMX (hi := hi1) fun l p g ⟨o, ho⟩ hc hw hm => by
  obtain ⟨k1, k2⟩ := v7 ho
  have hlt := (h.objs l o k2).lt hc hw
  rcases hM g hm with hb | ⟨l', hl', hlv, p', hc', hw'⟩
  ·have : σ.N <= g := hb
   omega
  ·exact k1 (by rw [h.inj l l' p p' g ⟨o, k2⟩ hlv hc hc' hw hw']; exact hl')
 have h3 := enter h2 []
 have hlτ : RVs X c τ ls cs := RVs.step (hτ.mono fun b _ hb => hMX b hb) _ _ hl
 have hconv : RVs (Z1 X c τ ⟨s.n, s.F, v8 gr s.O, s.nx⟩ []) (roC [] c) τ ls cs := RVs.conv (X := X) (X' := Z1 X c τ ⟨s.n, s.F, v8 gr s.O, s.nx⟩ []) (c := c) rfl (a2e h2 []) (fun l p hp => ⟨none, by simp [roC, Y3, hp]⟩) _ _ hlτ
 have hnil : e.upd = [] /\ e.new = [] /\ ∃ ps, b5o rs e.p = some ps /\ ∃ x, a0y tb (fun _ => none) rs ps = some x /\ x.2.1 = [] /\ x.2.2 = [] /\ x.1 = r := by
  unfold b72 at hr
  obtain ⟨hb, hr⟩ := y4 hr
  simp only [Bool.and_eq_true] at hb
  obtain ⟨ps, hps, hr⟩ := bind_some hr
  obtain ⟨x, hx, hr⟩ := bind_some hr
  obtain ⟨hb2, hr⟩ := y4 hr
  simp only [Bool.and_eq_true] at hb2
  cases hr
  exact ⟨a06 hb.1, a06 hb.2, ps, hps, x, hx, a06 hb2.1, a06 hb2.2, rfl⟩
 obtain ⟨n1, n2, ps, hps, x, hx, x1, x2, hxr⟩ := hnil
 have hc := hd.ok _ _ _ _ _ he (Z1 X c τ ⟨s.n, s.F, v8 gr s.O, s.nx⟩ []) (roC [] c) τ (roS [] ⟨s.n, s.F, v8 gr s.O, s.nx⟩) n F (vs ++ cs) hX hOc h3 (RVs.app _ _ _ _ (b35 ht hq) hconv) (by rw [n2]; rfl)
 rw [<- List.nil_append vs] at hc
 refine a1X.mono hc rfl fun v υ hst ⟨c', _, hrel, hv⟩ => ⟨υ, rfl, hst.mono fun b hb hm => ?_, ?_⟩
 ·rcases hm with hm | ⟨_, hm, _⟩
  ·have : τ.N <= b := hm
   omega
  ·cases hm
 ·have hlen := b2X hx
  have hws : ∃ ws, v = a32 ws /\ RVs (Z1 X c τ ⟨s.n, s.F, v8 gr s.O, s.nx⟩ []) c' υ ps ws := by
   unfold b5o at hps
   split at hps
   ·cases hps
    exact ⟨[v], rfl, by simp only [RVs]; exact ⟨v, [], rfl, hv, rfl⟩⟩
   ·rename_i hne
    split at hps
    ·rename_i ls' e'
     cases hps
     rw [e'] at hv
     simp only [RV] at hv
     obtain ⟨ws, rfl, hws⟩ := hv
     refine ⟨ws, ?_, hws⟩
     have hl2 := RVs.len _ _ hws
     cases ws with
     | nil => rfl
     | cons a r =>
       cases r with
       | nil =>
         exfalso
         cases rs with
         | nil => simp at hl2; rw [<- hl2] at hlen; simp at hlen
         | cons a' r' =>
           cases r' with
           | nil => exact hne a' rfl
           | cons => simp at hl2 hlen; omega
       | cons => rfl
    ·cases hps
  obtain ⟨ws, hw1, hw2⟩ := hws
  obtain ⟨x0, xl, xr⟩ := x
  simp only at x1 x2 hxr
  subst x1
  subst x2
  subst hxr
  obtain ⟨pls, t1, t2⟩ := a5e ht a0S.none_ Rows.none_ hx (fun _ h => h) (fun _ h => by cases h) hw2
  have : pls = [] := t2
  subst this
  exact ⟨ws, hw1, t1⟩
omit [∀ E, Rp (I E)] in
theorem b5q {ks ks' : List Kd} {rs rs' : List V} {g : Fun I ks' (TyT I rs')} {g' : Fun I ks (TyT I rs)} (h : b3g ks rs ks' rs' g = some g') : ∃ (e1 : ks' = ks) (e2 : rs' = rs), g' = e1 ▸ e2 ▸ g := by
 unfold b3g at h
 split at h
 ·rename_i e; cases h; exact ⟨e.1, e.2, rfl⟩
 ·cases h
def a2n : List Pk -> List (TypeId × V)
 | [] => []
 | .var T v true :: r => (T, v) :: a2n r
 | _ :: r => a2n r
theorem a1u : ∀ (pks : List Pk), (a2n pks).map (·.2) = k8 pks
 | [] => rfl
 | .var T v true :: r => by simp [a2n, k8, a1u r]
 | .var T v false :: r => a1u r
 | .d _ :: r => a1u r
 | .row _ _ :: r => a1u r
 | .fn _ _ :: r => a1u r
 | .bor _ :: r => a1u r
omit [∀ E, Rp (I E)] in
theorem a7o {O : Obs I} {l : Nat} {E : TypeId} {xs : List (I E)} : ∀ {ls : List Nat} {O1 : Obs I}, (∃ fl, O l = some (some (.row E xs fl))) -> (∃ fl, O1 l = some (some (.row E xs fl))) -> ∃ fl, apU O1 (Z0 O ls) l = some (some (.row E xs fl))
 | [], _, _, h => h
 | a :: r, O1, h0, h => by
   simp only [Z0]
   split
   ·rename_i E' xs' e
    simp only [apU]
    refine a7o h0 ?_
    by_cases el : l = a
    ·subst el
     obtain ⟨fl, h0⟩ := h0
     rw [h0] at e
     cases e
     exact ⟨true, w6 _ _ _⟩
    ·rw [w7 el]; exact h
   ·exact a7o h0 h
theorem b5L (h : Rel X c σ s n F) (hRw : ∀ l E (xs : List (I E)) fl, O l = some (some (.row E xs fl)) -> ∃ fl', s.O l = some (some (.row E xs fl'))) (hBo : ∀ l E (xs : List (I E)), O l = some (some (.bo E xs)) -> s.O l = some (some (.bo E xs)))
 {LS : List Nat} (hS : a0S X c σ O LS) {gr : List Nat} {M : Nat -> Prop} (hM : ∀ b, M b -> σ.N <= b \/ ∃ l ∈ gr, k9 s l /\ ∃ p, c l = some p /\ p.w = some b) {E : TypeId} {p : PV I} {x : List (I E)} {rv : List Nat} (hx : b3G O E p = some (x, rv)) (hrv : ∀ l ∈ rv, l ∉ gr) {v : Value} (hv : RV X c σ p v) :
 ∃ A k, v = .slice A x.length k /\ Bor M σ x A := by
 have hMX : ∀ b, M b -> X.M b := fun b hb => by
  rcases hM b hb with hb | ⟨l, _, hlv, p, hc, hw⟩
  ·exact .inl (Nat.le_trans h.base hb)
  ·exact h.mine l p b hlv hc hw
 unfold b3G at hx
 split at hx
 ·rename_i l
  simp only [RV] at hv
  obtain ⟨p, hp, rfl⟩ := hv
  split at hx
  ·rename_i E' xs fl ho
   obtain ⟨ys, hys, hx⟩ := bind_some hx
   cases hx
   obtain ⟨e, rfl⟩ := W1 hys
   subst e
   obtain ⟨fl', hs⟩ := hRw l _ _ _ ho
   obtain ⟨A, k, ow, k1, k2⟩ := h.objs l _ hs
   rw [k1] at hp
   cases hp
   refine ⟨A, k, rfl, Bor.of_own k2 fun g hg hm => ?_⟩
   have hlt := (h.objs l _ hs).lt k1 (g := g) hg
   rcases hM g hm with hb | ⟨l', hl', hlv, p', hc', hw'⟩
   ·have hb' : σ.w.heap.size <= g := hb
    have : g < σ.w.heap.size := hlt
    omega
   ·have e := h.inj l l' _ p' g ⟨_, hs⟩ hlv k1 hc' hg hw'
    exact hrv l (by simp) (by rw [e]; exact hl')
  ·rename_i E' xs ho
   obtain ⟨ys, hys, hx⟩ := bind_some hx
   cases hx
   obtain ⟨e, rfl⟩ := W1 hys
   subst e
   obtain ⟨A, k, k1, k2⟩ := hS.2 l _ _ ho
   rw [k1] at hp
   cases hp
   exact ⟨A, k, rfl, Bor.of_sl k2⟩
  ·rename_i E' xs ho
   obtain ⟨ys, hys, hx⟩ := bind_some hx
   cases hx
   obtain ⟨e, rfl⟩ := W1 hys
   subst e
   obtain ⟨A, k, k1, k2⟩ := h.objs l _ (hBo l _ _ ho)
   rw [k1] at hp
   cases hp
   exact ⟨A, k, rfl, k2.sub fun b _ => hMX b⟩
  ·cases hx
 ·obtain ⟨ys, hys, hx⟩ := bind_some hx
  cases hx
  obtain ⟨e, rfl⟩ := W1 hys
  subst e
  simp only [RV] at hv
  obtain ⟨A, k, e1, e2, _⟩ := hv
  exact ⟨A, k, e1, Bor.of_sl e2⟩
 ·cases hx
  simp only [RV] at hv
  obtain ⟨A, rfl⟩ := hv
  exact ⟨A, 0, rfl, [], rfl, fun hn => absurd rfl hn⟩
 ·cases hx
def a14 (c : Cx) (O : Obs I) : List (Nat × TypeId × V) -> List Nat -> Prop
 | [], bs => bs = []
 | x :: r, bs => ∃ b bs' ls, bs = b :: bs' /\ O x.1 = some (some (.var x.2.1 ls true)) /\ c x.1 = some ⟨some ⟨b, 0, none⟩, 0, 0, some b⟩ /\ a14 c O r bs'
theorem a11 (ht : TabOk P tb) {disp : K6 I} (hd : DispOk P disp) (hX : X.P = P) (h : Rel X c σ s n F) (hRw : ∀ l E (xs : List (I E)) fl, O l = some (some (.row E xs fl)) -> ∃ fl', s.O l = some (some (.row E xs fl'))) (hBo : ∀ l E (xs : List (I E)), O l = some (some (.bo E xs)) -> s.O l = some (some (.bo E xs))) (hO : ∀ l T ls w, O l = some (some (.var T ls w)) -> s.O l = some (some (.var T ls w))) {LS : List Nat} (hS : a0S X c σ O LS) (hR : Rows X c σ O LS) {gr : List Nat} {Oc : Obs I}
 (hOc : ∀ l o, Oc l = some (some o) -> roO [] (v8 gr s.O) l = some (some o)) {M : Nat -> Prop} (hM : ∀ b, M b -> σ.N <= b \/ ∃ l ∈ gr, k9 s l /\ ∃ p, c l = some p /\ p.w = some b) {nb : Nat} :
 ∀ {pks : List Pk} {ps : List (PV I)} {a : X4 I pks} {acc : AccT} {vs : List Value}, a4i tb disp O Oc nb pks ps = some (a, acc) -> RVs X c σ ps vs -> (∀ l ∈ acc.pub, l ∈ LS) -> (∀ l, some l ∈ acc.all -> l ∉ LS) -> (∀ l ∈ acc.rv, l ∉ gr) ->
  ∃ pls, a2i P M σ pks a vs pls /\ At c acc.all pls /\ a14 c O acc.gv (X1 pks vs) /\ (∀ l, some l ∈ acc.all -> (∃ E, ∃ xs : List (I E), ∃ fl, O l = some (some (.row E xs fl))) \/ ∃ T v, (l, T, v) ∈ acc.gv) /\ (∀ x ∈ acc.gv, some x.1 ∈ acc.all) /\ acc.gv.map (fun x => x.2) = a2n pks
 | [], [], a, acc, vs, e, hv, _, _, _ => by
   cases e
   simp only [RVs] at hv
   subst hv
   exact ⟨[], ⟨rfl, rfl⟩, rfl, rfl, (fun l hl => by cases hl), (fun l hl => by cases hl), rfl⟩
 | .d k :: r, p :: ps, _, _, vs, e, hv, h1, h2, h3 => by
   obtain ⟨x, hx, e⟩ := bind_some e
   obtain ⟨y, hy, e⟩ := bind_some e
   cases e
   simp only [RVs] at hv
   obtain ⟨v, vs', rfl, hv1, hv2⟩ := hv
   obtain ⟨pls, k1, k2, k3, k4, k5, k6⟩ := a11 ht hd hX h hRw hBo hO hS hR hOc hM (a := y.1) (acc := y.2) hy hv2 (fun l hl => h1 l (by simp [hl])) h2 h3
   have hd1 := a9t ht hS (ls := x.2) hx (fun l hl => h1 l (by simp [hl])) hv1
   refine ⟨pls, ⟨v, vs', [], pls, rfl, rfl, ⟨hd1, rfl⟩, k1⟩, k2, ?_, k4, k5, k6⟩
   have : X1 (.d k :: r) (v :: vs') = X1 r vs' := by cases v <;> rfl
   rw [this]; exact k3
 | .row E fl :: r, p :: ps, _, _, vs, e, hv, h1, h2, h3 => by
   obtain ⟨x, hx, e⟩ := bind_some e
   obtain ⟨y, hy, e⟩ := bind_some e
   cases e
   simp only [RVs] at hv
   obtain ⟨v, vs', rfl, hv1, hv2⟩ := hv
   obtain ⟨pls, k1, k2, k3, k4, k5, k6⟩ := a11 ht hd hX h hRw hBo hO hS hR hOc hM (a := y.1) (acc := y.2) hy hv2 (fun l hl => h1 l (by simp [hl])) (fun l hl => h2 l (by simp [hl])) h3
   obtain ⟨p1, t1, t2⟩ := a6I ht hS hR (ls := x.2.1) (rows := x.2.2) hx (fun l hl => h1 l (by simp [hl])) (fun l hl => h2 l (by simp [hl])) hv1
   have hl1 := a29 (ls := x.2.1) (rows := x.2.2) hx
   obtain ⟨A, k, ow, e1, e2, e3⟩ := t1
   refine ⟨p1 ++ pls, ⟨v, vs', p1, pls, rfl, rfl, ⟨A, k, ow, e1, e3, e2⟩, k1⟩, t2.app k2, ?_, fun l hl => ?_, fun z hz => by simp [k5 z hz], k6⟩
   ·have : X1 (.row E fl :: r) (v :: vs') = X1 r vs' := by cases v <;> rfl
    rw [this]; exact k3
   ·rcases List.mem_append.1 hl with hl | hl
    ·exact .inl (hl1 l hl)
    ·exact k4 l hl
 | .bor E :: r, p :: ps, _, _, vs, e, hv, h1, h2, h3 => by
   obtain ⟨x, hx, e⟩ := bind_some e
   obtain ⟨y, hy, e⟩ := bind_some e
   cases e
   simp only [RVs] at hv
   obtain ⟨v, vs', rfl, hv1, hv2⟩ := hv
   obtain ⟨pls, k1, k2, k3, k4, k5, k6⟩ := a11 ht hd hX h hRw hBo hO hS hR hOc hM (a := y.1) (acc := y.2) hy hv2 h1 (fun l hl => h2 l (by simp [hl])) (fun l hl => h3 l (by simp [hl]))
   obtain ⟨A, k, e1, e2⟩ := b5L h hRw hBo hS hM (x := x.1) (rv := x.2) hx (fun l hl => h3 l (by simp [hl])) hv1
   refine ⟨⟨A, k, List.length x.1, none⟩ :: pls, ⟨v, vs', [_], pls, rfl, rfl, ⟨A, k, e1, e2, rfl⟩, k1⟩, ⟨_, _, rfl, rfl, k2⟩, ?_, fun l hl => ?_, fun z hz => by simp [k5 z hz], k6⟩
   ·have : X1 (.bor E :: r) (v :: vs') = X1 r vs' := by cases v <;> rfl
    rw [this]; exact k3
   ·rcases List.mem_cons.1 hl with hl | hl
    ·cases hl
    ·exact k4 l hl
 | .fn ks rs :: r, p :: ps, _, _, vs, e, hv, h1, h2, h3 => by
   obtain ⟨y, hy, e⟩ := bind_some e
   simp only [RVs] at hv
   obtain ⟨v, vs', rfl, hv1, hv2⟩ := hv
   have hb : X1 (.fn ks rs :: r) (v :: vs') = X1 r vs' := by cases v <;> rfl
   split at e
   ·rename_i ks' rs' g
    obtain ⟨g', hg', e⟩ := bind_some e
    cases e
    obtain ⟨e1, e2, e3⟩ := b5q hg'
    subst e1
    subst e2
    subst e3
    obtain ⟨pls, k1, k2, k3, k4, k5, k6⟩ := a11 ht hd hX h hRw hBo hO hS hR hOc hM (a := y.1) (acc := y.2) hy hv2 h1 h2 h3
    simp only [RV] at hv1
    obtain ⟨f, as', cs, e4, hf⟩ := hv1
    refine ⟨pls, ⟨v, vs', [], pls, rfl, rfl, ⟨f, as', cs, e4, ⟨by rw [<- hX]; exact hf.1, hf.2.1, fun τ hτ => ?_⟩, rfl⟩, k1⟩, k2, by rw [hb]; exact k3, k4, k5, k6⟩
    rw [hX] at hf
    exact hf.2.2 τ (hτ.mono fun b _ hb => by
     rcases hM b hb with hb | ⟨l, _, hlv, p, hc, hw⟩
     ·exact .inl (Nat.le_trans h.base hb)
     ·exact h.mine l p b hlv hc hw)
   ·rename_i f0 ls0 hh0
    replace e := y4 e
    obtain ⟨hfb, e⟩ := e
    cases e
    obtain ⟨pls, k1, k2, k3, k4, k5, k6⟩ := a11 ht hd hX h hRw hBo hO hS hR hOc hM (a := y.1) (acc := y.2) hy hv2 h1 h2 h3
    simp only [RV] at hv1
    obtain ⟨cs, e4, hls⟩ := hv1
    exact ⟨pls, ⟨v, vs', [], pls, rfl, rfl, ⟨_, [], cs, e4, b8G ht hd hX h hOc hM hls (ht.fb _ hfb), rfl⟩, k1⟩, k2, by rw [hb]; exact k3, k4, k5, k6⟩
   ·cases e
 | .var T vk w :: r, p :: ps, _, _, vs, e, hv, h1, h2, h3 => by
   obtain ⟨x, hx, e⟩ := bind_some e
   obtain ⟨y, hy, e⟩ := bind_some e
   cases e
   simp only [RVs] at hv
   obtain ⟨v, vs', rfl, hv1, hv2⟩ := hv
   obtain ⟨pls, k1, k2, k3, k4, k5, k6⟩ := a11 ht hd hX h hRw hBo hO hS hR hOc hM (a := y.1) (acc := y.2) hy hv2 (fun l hl => h1 l (by simp [hl])) (fun l hl => h2 l (by simp [hl])) (fun l hl => h3 l (by simp [hl]))
   unfold b6b at hx
   split at hx
   ·rename_i l
    split at hx
    ·rename_i T' ls w' ho
     replace hx := y4 hx
     obtain ⟨hT, hx⟩ := hx
     simp only [Bool.and_eq_true] at hT
     have eT := Nat.eq_of_beq_eq_true hT.1
     subst eT
     have hww := hT.2
     replace hx := bind_some hx
     obtain ⟨q, hq, hx⟩ := hx
     replace hx := bind_some hx
     obtain ⟨z, hz, hx⟩ := hx
     have hs := hO _ _ _ _ ho
     obtain ⟨b, cs, o1, o2, o3, o4, o5⟩ := h.objs l _ hs
     simp only [RV] at hv1
     obtain ⟨b', w2, c1, rfl⟩ := hv1
     rw [o1] at c1
     cases c1
     obtain ⟨u, hu, hcu⟩ := b3z hq o2
     cases w with
     | true =>
       have hw' : w' = true := by cases w' <;> simp at hww ⊢
       subst hw'
       cases hx
       obtain ⟨pr, t1, t2⟩ := a8H ht hS hR (ls := z.2.1) (rows := z.2.2) hz (fun l hl => h1 l (by simp [hl])) (fun l hl => h2 l (by simp [hl])) hu
       have hl1 := a8c (ls := z.2.1) (rows := z.2.2) hz
       refine ⟨(⟨some ⟨b, 0, none⟩, 0, 0, some b⟩ :: pr) ++ pls, ⟨_, vs', _, pls, rfl, rfl, ⟨b, cs, u, pr, rfl, o3, hcu, t1, (fun _ => o4 rfl), (fun e => by cases e), rfl⟩, k1⟩, ?_, ?_, fun l' hl => ?_, fun g hg => ?_, ?_⟩
       ·refine At.app (r1 := some l :: z.2.2) ?_ k2
        exact ⟨_, pr, rfl, o1, t2⟩
       ·exact ⟨b, _, ls, rfl, ho, o1, k3⟩
       ·simp only [List.mem_append, List.mem_cons, Option.some.injEq] at hl
        rcases hl with (hl | hl) | hl
        ·subst hl
         exact .inr ⟨T, vk, by simp⟩
        ·exact .inl (hl1 l' hl)
        ·rcases k4 l' hl with hl | ⟨T2, v2, hl⟩
         ·exact .inl hl
         ·exact .inr ⟨T2, v2, by simp [hl]⟩
       ·simp only [List.cons_append, List.nil_append, List.mem_cons] at hg
        rcases hg with hg | hg
        ·subst hg; simp
        ·simp [k5 g hg]
       ·simp only [List.cons_append, List.nil_append, List.map_cons, a2n, k6]
     | false =>
       simp only [cond_false] at hx
       replace hx := y4 hx
       obtain ⟨hn, hx⟩ := hx
       have hn := a06 hn
       cases hx
       obtain ⟨pr, t1, t2⟩ := a8H ht hS hR (ls := z.2.1) (rows := z.2.2) hz (fun l hl => h1 l (by simp [hl])) (fun l hl => by rw [hn] at hl; cases hl) hu
       rw [hn] at t2
       have : pr = [] := t2
       subst this
       have hlgr : l ∉ gr := h3 l (by simp)
       refine ⟨(⟨some ⟨b, 0, none⟩, 0, 0, none⟩ :: []) ++ pls, ⟨_, vs', _, pls, rfl, rfl, ⟨b, cs, u, [], rfl, o3, hcu, t1, (fun e => by cases e), (fun _ hMb => ?_), rfl⟩, k1⟩, ?_, ?_, fun l' hl => ?_, fun g hg => ?_, ?_⟩
       ·have hlt := W7 o3
        rcases hM b hMb with hb | ⟨l', hl', hlv, p', hc', hw2'⟩
        ·have hb' : σ.w.heap.size <= b := hb
         omega
        ·cases w' with
         | true => exact hlgr (by rw [h.inj l l' _ p' b ⟨_, hs⟩ hlv o1 hc' rfl hw2']; exact hl')
         | false => exact o5 rfl (h.mine l' p' b hlv hc' hw2')
       ·refine At.app (r1 := [none]) ?_ k2
        exact ⟨_, [], rfl, rfl, rfl⟩
       ·exact k3
       ·simp only [List.cons_append, List.nil_append, List.mem_cons] at hl
        rcases hl with hl | hl
        ·cases hl
        ·exact k4 l' hl
       ·simp [k5 g hg]
       ·exact k6
    ·cases hx
   ·cases hx
 | [], _ :: _, _, _, _, e, _, _, _, _ => by simp [a4i] at e
 | _ :: _, [], _, _, _, e, _, _, _, _ => by simp [a4i] at e
omit [∀ E, Rp (I E)] in
theorem a7x : ∀ {all : List (Option Nat)} {O : Obs I} {l : Nat}, (∀ l, some l ∈ all -> O l ≠ none) -> apU O (a0m all) l = v8 (all.filterMap id) O l
 | [], O, l, _ => by simp [a0m, apU, v8, Y3]
 | none :: r, O, l, h => by
   have := a7x (all := r) (O := O) (l := l) (fun l hl => h l (by simp [hl]))
   simpa [a0m] using this
 | some a :: r, O, l, h => by
   simp only [a0m, apU]
   rw [a7x (all := r) (fun l' hl' => by
    by_cases e : l' = a
    ·subst e; rw [w6]; simp
    ·rw [w7 e]; exact h l' (by simp [hl']))]
   simp only [v8, List.filterMap_cons, id, Y3]
   by_cases e : l = a
   ·subst e
    rw [w6]
    have ha := h l (by simp)
    cases ho : O l with
    | none => exact absurd ho ha
    | some o => cases Y3 l (List.filterMap id r) <;> simp
   ·rw [w7 e, Sx.beq_false e]
    rfl
omit [∀ E, Rp (I E)] in
theorem b2F {O : Obs I} {l : Nat} {o : Option (Ob I)} {os : List (Ob I)} {nb : Nat} (h : l ∉ rng nb os.length) : K5 (upF O l o) nb os = upF (K5 O nb os) l o := by
 funext i
 by_cases hi : i ∈ rng nb os.length
 ·rw [(b07 (O' := O) hi).1, w7 (fun e => h (by rw [<- e]; exact hi))]
 ·rw [K8 hi]
  by_cases e : i = l
  ·subst e; rw [w6, w6]
  ·rw [w7 e, w7 e, K8 hi]
omit [∀ E, Rp (I E)] in
theorem a9W {O0 : Obs I} {os : List (Ob I)} {nb : Nat} : ∀ {gv : List (Nat × TypeId × V)} {ps : List (PV I)} {O : Obs I}, (∀ x ∈ gv, (∃ ls, O0 x.1 = some (some (.var x.2.1 ls true))) /\ x.1 ∉ rng nb os.length) ->
 K5 (apU O (a19 gv ps)) nb os = asgW O0 (gv.map fun x => (x.1, x.2.2)) (gv.map (·.1)) ps (K5 O nb os)
 | [], ps, O, _ => by cases ps <;> rfl
 | x :: r, [], O, _ => rfl
 | x :: r, p :: ps, O, h => by
   obtain ⟨⟨ls, h1⟩, h2⟩ := h x (by simp)
   simp only [a19, apU, List.map_cons, asgW, h1]
   rw [a9W (gv := r) (fun y hy => h y (by simp [hy])), b2F h2]
omit [∀ E, Rp (I E)] in
theorem a24 {O0 O : Obs I} : ∀ {pks : List Pk} {vs us : List Value} {gv : List (Nat × TypeId × V)}, b2E τ pks vs us -> a14 c O gv (X1 pks vs) -> gv.map (fun x => x.2) = a2n pks -> (∀ x ∈ gv, ∃ ls, O0 x.1 = some (some (.var x.2.1 ls true))) ->
 a2x τ c O0 (gv.map fun x => (x.1, x.2.2)) (gv.map (·.1)) us
 | [], vs, us, gv, h, _, h3, _ => by
   have hg : gv = [] := by simpa [a2n] using h3
   subst hg
   cases vs with
   | nil => exact h
   | cons => exact h.elim
 | .d k :: r, [], us, gv, h, _, _, _ => h.elim
 | .row _ _ :: r, [], us, gv, h, _, _, _ => h.elim
 | .fn _ _ :: r, [], us, gv, h, _, _, _ => h.elim
 | .bor _ :: r, [], us, gv, h, _, _, _ => h.elim
 | .var _ _ false :: r, [], us, gv, h, _, _, _ => h.elim
 | .var _ _ true :: r, [], us, gv, h, _, _, _ => h.elim
 | .d k :: r, v :: vs, us, gv, h, h2, h3, h4 => a24 (pks := r) (vs := vs) h (by have e : X1 (.d k :: r) (v :: vs) = X1 r vs := by cases v <;> rfl
                                                                                rw [e] at h2; exact h2) h3 h4
 | .row E f :: r, v :: vs, us, gv, h, h2, h3, h4 => a24 (pks := r) (vs := vs) h (by have e : X1 (.row E f :: r) (v :: vs) = X1 r vs := by cases v <;> rfl
                                                                                    rw [e] at h2; exact h2) h3 h4
 | .bor E :: r, v :: vs, us, gv, h, h2, h3, h4 => a24 (pks := r) (vs := vs) h (by have e : X1 (.bor E :: r) (v :: vs) = X1 r vs := by cases v <;> rfl
                                                                                  rw [e] at h2; exact h2) h3 h4
 | .fn ks rs :: r, v :: vs, us, gv, h, h2, h3, h4 => a24 (pks := r) (vs := vs) h (by have e : X1 (.fn ks rs :: r) (v :: vs) = X1 r vs := by cases v <;> rfl
                                                                                     rw [e] at h2; exact h2) h3 h4
 | .var T w false :: r, v :: vs, us, gv, h, h2, h3, h4 => a24 (pks := r) (vs := vs) h (by have e : X1 (.var T w false :: r) (v :: vs) = X1 r vs := by cases v <;> rfl
                                                                                          rw [e] at h2; exact h2) h3 h4
 | .var T w true :: r, v :: vs, us, gv, h, h2, h3, h4 => by
   obtain ⟨b, cs, u, us', e1, e2, e3, e4, e5, e6⟩ := h
   subst e1
   subst e2
   cases gv with
   | nil => simp [a2n] at h3
   | cons x gv =>
     simp only [List.map_cons, a2n, List.cons.injEq] at h3
     obtain ⟨b', bs', ls, q1, q2, q3, q4⟩ := h2
     have hb : X1 (.var T w true :: r) (Value.pointer (some ⟨b, 0, none⟩) :: vs) = b :: X1 r vs := rfl
     rw [hb] at q1
     cases q1
     obtain ⟨ls0, o1⟩ := h4 x (by simp)
     have ih := a24 (pks := r) (vs := vs) (us := us') (gv := gv) (O0 := O0) e6 q4 h3.2 (fun y hy => h4 y (by simp [hy]))
     have hT : x.2.1 = T := by rw [h3.1]
     have hV : x.2.2 = w := by rw [h3.1]
     refine ⟨u, us', b, x.2.1, ls0, true, cs, rfl, o1, q3, by rw [hT]; exact e3, e4, ?_, ih⟩
     show bif a2U x.2.2 then _ else _
     rw [hV]; exact e5
theorem a9U (ht : TabOk P tb) {r : Row I} {C : World -> List Value -> Prop} {chk : Obs I -> List (PV I) -> Bool} (hr : a5p P r C)
 (hC : ∀ (X : Cxt) (c : Cx) (σ : S) (s : St I) (n : Nat) (F : Fr) (O : Obs I) (ps : List (PV I)) (vs : List Value), (∀ l o, O l = some (some o) -> s.O l = some (some o)) -> Rel X c σ s n F -> chk O ps = true -> RVs X c σ ps vs -> C σ.w vs) : EntOk P (b5k tb r chk) := by
 refine ⟨fun disp ρ O nb ps k => ?_, fun disp hd O nb ps ef he => ?_⟩
 ·show a6T tb r chk disp ρ O nb ps k = (a6T tb r chk disp (Ef I) O nb ps some).bind k
  unfold a6T
  cases chk O ps
  ·rfl
  simp only [cond_true]
  unfold b2v
  simp only [Option.bind_assoc]
  refine b4u fun a => ?_
  cases b1t (grN O r.ps ps) a.2
  ·rfl
  ·simp only [cond_true, Option.bind_assoc]
   rfl
 ·intro X c σ s n F vs hX hO h hvs hfree
  have he' : a6T tb r chk disp (Ef I) O nb ps some = some ef := he
  unfold a6T at he'
  obtain ⟨hck, he'⟩ := y4 he'
  have hCw := hC X c σ s n F O ps vs hO h hck hvs
  unfold b2v at he'
  obtain ⟨a, ha, he'⟩ := bind_some he'
  obtain ⟨hchk, he'⟩ := y4 he'
  obtain ⟨res, hres, he'⟩ := bind_some he'
  cases he'
  obtain ⟨a, acc⟩ := a
  simp only [b1t, Bool.and_eq_true] at hchk
  obtain ⟨⟨q1, q2⟩, q3⟩ := hchk
  obtain ⟨r1, r2⟩ := a10 q1
  have hgr : ∀ l, some l ∈ acc.all -> l ∈ grN O r.ps ps := fun l hl => by
   have := (List.all_eq_true.1 q2) _ hl
   exact Q4.1 this
  have hrv : ∀ l ∈ acc.rv, l ∉ grN O r.ps ps := fun l hl => by
   have := (List.all_eq_true.1 q3) _ hl
   exact K9.1 (by simpa using this)
  obtain ⟨τ1, p1, p2, p3, p4, p5, p6⟩ := h.pubs hO acc.pub
  have hvs1 := RVs.step p2 _ _ hvs
  have hpubO : ∀ {l : Nat}, (∀ E (xs : List (I E)), O l ≠ some (some (.row E xs false))) -> (j8 s O acc.pub).O l = s.O l := fun {l} hn => by
   show apU s.O (Z0 O acc.pub) l = s.O l
   apply a0B
   intro hm
   have hp : ∀ {ls : List Nat}, l ∈ V0 (Z0 O ls) -> ∃ E, ∃ xs : List (I E), O l = some (some (.row E xs false)) := by
    intro ls
    induction ls with
    | nil => intro h; simp [Z0, V0] at h
    | cons a r ih =>
      intro h
      simp only [Z0] at h
      split at h
      ·rename_i E xs e
       simp only [V0, List.map_cons, List.mem_cons] at h
       rcases h with rfl | h
       ·exact ⟨E, xs, e⟩
       ·exact ih h
      ·exact ih h
   obtain ⟨E, xs, e⟩ := hp hm
   exact hn E xs e
  have hOv : ∀ l T ls w, O l = some (some (.var T ls w)) -> (j8 s O acc.pub).O l = some (some (.var T ls w)) := fun l T ls w ho => by
   rw [hpubO (fun E xs e => by rw [ho] at e; cases e)]; exact hO l _ ho
  have hOc : ∀ l o, roO [] (v8 (grN O r.ps ps) O) l = some (some o) -> roO [] (v8 (grN O r.ps ps) (j8 s O acc.pub).O) l = some (some o) := by
   intro l o hl
   unfold roO v8 at hl ⊢
   cases hm : Y3 l (grN O r.ps ps) with
   | true =>
     rw [hm] at hl
     cases hol : O l with
     | none => rw [hol] at hl; simp [Y3] at hl
     | some x => rw [hol] at hl; simp [Y3] at hl
   | false =>
     rw [hm] at hl
     simp only [cond_false, Y3] at hl ⊢
     have hne : ∀ E (xs : List (I E)), O l ≠ some (some (.row E xs false)) := fun E xs e => by rw [e] at hl; simp at hl
     rw [hpubO hne]
     cases hol : O l with
     | none => rw [hol] at hl; simp at hl
     | some x =>
       cases x with
       | none => rw [hol] at hl; simp at hl
       | some o' => rw [hO l o' hol]; rw [hol] at hl; exact hl
  have hlv : ∀ l, some l ∈ acc.all -> (∃ E, ∃ xs : List (I E), ∃ fl, O l = some (some (.row E xs fl))) \/ (∃ T ls, O l = some (some (.var T ls true))) -> k9 (j8 s O acc.pub) l := fun l hl hx => by
   rcases hx with ⟨E, xs, fl, ho⟩ | ⟨T, ls, ho⟩
   ·exact ⟨_, (p6 l (r2 l hl)).trans (hO l _ ho)⟩
   ·exact ⟨_, hOv l _ _ _ ho⟩
  have core : ∀ M : Nat -> Prop, (∀ b, M b -> τ1.N <= b \/ ∃ l ∈ grN O r.ps ps, k9 (j8 s O acc.pub) l /\ ∃ p, c l = some p /\ p.w = some b) -> _ := fun M hM =>
   a11 ht hd hX p3 (fun l E xs fl e => a7o ⟨fl, e⟩ ⟨fl, hO l _ e⟩) (fun l E xs e => (hpubO (fun E' xs' e' => by rw [e] at e'; cases e')).trans (hO l _ e)) hOv p4 p5 hOc hM (nb := nb) ha hvs1 (fun _ h => h) r2 hrv
  have fin : ∀ (pls : List Pl), a2i P (fun b => τ1.N <= b \/ b ∈ ows pls) τ1 r.ps a vs pls -> At c acc.all pls -> a14 c O acc.gv (X1 r.ps vs) -> (∀ l, some l ∈ acc.all -> (∃ E, ∃ xs : List (I E), ∃ fl, O l = some (some (.row E xs fl))) \/ ∃ T v, (l, T, v) ∈ acc.gv) ->
   (∀ x ∈ acc.gv, some x.1 ∈ acc.all) -> acc.gv.map (fun x => x.2) = a2n r.ps -> a1X P r.f vs σ (Stp X.M σ) fun v τ => ∃ c', Cx.le c c' /\ Rel X c' τ (apE s nb ⟨a4N ((pvT tb nb (r.rs ++ k8 r.ps) res).take r.rs.length), Z0 O acc.pub ++ a0m acc.all ++ a19 acc.gv ((pvT tb nb (r.rs ++ k8 r.ps) res).drop r.rs.length), obT (r.rs ++ k8 r.ps) res⟩) n F /\
     RV X c' τ (a4N ((pvT tb nb (r.rs ++ k8 r.ps) res).take r.rs.length)) v := by
   intro pls k1 k2 k3 k4 k5 k6
   have hgv : ∀ x ∈ acc.gv, ∃ ls, O x.1 = some (some (.var x.2.1 ls true)) := by
    have : ∀ {gv : List (Nat × TypeId × V)} {bs : List Nat}, a14 c O gv bs -> ∀ x ∈ gv, ∃ ls, O x.1 = some (some (.var x.2.1 ls true)) := by
     intro gv
     induction gv with
     | nil => intro bs _ x hx; cases hx
     | cons y r ih =>
       intro bs ⟨b, bs', ls, _, e2, _, e4⟩ x hx
       rcases List.mem_cons.1 hx with rfl | hx
       ·exact ⟨ls, e2⟩
       ·exact ih e4 x hx
    exact this k3
   have hlive : ∀ l, some l ∈ acc.all -> k9 (j8 s O acc.pub) l := fun l hl => hlv l hl ((k4 l hl).imp id fun ⟨T, v, hm⟩ => by
    obtain ⟨ls, e⟩ := hgv _ hm
    exact ⟨T, ls, e⟩)
   have hnd : (ows pls).Nodup := At.nodup p3 k2 r1 hlive
   have hown : ∀ g ∈ ows pls, ∃ l p, some l ∈ acc.all /\ c l = some p /\ p.w = some g := k2.mem
   have hownM : ∀ g ∈ ows pls, X.M g := fun g hg => by
    obtain ⟨l, p, a1, a2, a3⟩ := hown g hg
    exact p3.mine l p g (hlive l a1) a2 a3
   refine a1X.mono (hr τ1 a vs pls res k1 (by rw [p1]; exact hCw) hnd hres) p1.symm fun v τ hst ⟨ws, us, pls', hpost⟩ => ⟨τ, rfl, p2.trans (hst.mono fun b _ hb => hownM b hb), ?_⟩
   let kl := acc.all.filterMap id
   have hkl : ∀ l, l ∈ kl ↔ some l ∈ acc.all := fun l => by simp [kl, List.mem_filterMap]
   let s2 : St I := ⟨s.n, s.F, v8 kl (j8 s O acc.pub).O, s.nx⟩
   have h2 : Rel X c τ1 s2 n F := p3.less (fun l o ho => (v7 ho).2) (fun l ho => a0d.1 ho)
   have hn2 : ∀ l p g, k9 s2 l -> c l = some p -> p.w = some g -> ¬ g ∈ ows pls := fun l p g ⟨o, ho⟩ hc hw hg => by
    obtain ⟨m1, m2⟩ := v7 ho
    obtain ⟨l', p', a1, a2, a3⟩ := hown g hg
    exact m1 ((hkl l).2 (by rw [p3.inj l l' p p' g ⟨o, m2⟩ (hlive l' a1) hc a2 hw a3]; exact a1))
   have hi2 : ∀ g, g ∈ ows pls -> notIn c τ1 s2 g := fun g hg => by
    obtain ⟨l', p', a1, a2, a3⟩ := hown g hg
    exact (p3.owned (hlive l' a1) a2 a3).sub fun l E E' u xs q e => (v7 e).2
   have h3 : Rel X c τ s2 n F := h2.stepG hst hownM hn2 hi2
   have hOpub : apU s.O (Z0 O acc.pub ++ a0m acc.all) = v8 kl (j8 s O acc.pub).O := by
    rw [a0W]
    funext l
    exact a7x fun l hl => by obtain ⟨o, ho⟩ := hlive l hl; intro e; have := ho; rw [show (j8 s O acc.pub).O l = apU s.O (Z0 O acc.pub) l from rfl, e] at this; cases this
   have hgvO : ∀ x ∈ acc.gv, ∃ ls, (j8 s O acc.pub).O x.1 = some (some (.var x.2.1 ls true)) := fun x hx => by
    obtain ⟨ls, e⟩ := hgv x hx
    exact ⟨ls, hOv _ _ _ _ e⟩
   have hfree2 : ∀ l ∈ rng nb (obT (r.rs ++ k8 r.ps) res).length, v8 kl (j8 s O acc.pub).O l = none /\ l ∉ acc.gv.map (·.1) := by
    rw [X8] at hfree
    intro l hl
    have h0 := hfree l hl
    rw [a0W, hOpub] at h0
    by_cases hk : l ∈ V0 (a19 acc.gv ((pvT tb nb (r.rs ++ k8 r.ps) res).drop r.rs.length))
    ·exact absurd h0 (a6N (O' := s.O) hk).2
    ·rw [a0B hk] at h0
     refine ⟨h0, fun hm => ?_⟩
     simp only [List.mem_map] at hm
     obtain ⟨x, hx, e⟩ := hm
     have := (hkl x.1).2 (k5 x hx)
     rw [e] at this
     have hl2 := hlive l ((hkl l).1 this)
     obtain ⟨o, ho⟩ := hl2
     have := a0d.1 h0
     rw [ho] at this; cases this
   have hob := a3j hpost.tt
   obtain ⟨h4, h5⟩ := Rel.addN (nb := nb) h3 (X8.2 fun l hl => (hfree2 l hl).1) hob hpost.nodup fun g hg => by
    have ho := hpost.own g hg
    refine ⟨ho.1.elim (fun h => .inl (Nat.le_trans p3.base h)) (hownM g), (ho.1.elim (fun h => h2.fresh h) (hi2 g)).step h2 hst hn2 hi2, fun l p ⟨o, ho'⟩ hc hw => ?_⟩
    obtain ⟨m1, m2⟩ := v7 ho'
    rcases ho.1 with hge | hin
    ·have := (p3.objs l o m2).lt hc hw
     have : τ1.w.heap.size <= g := hge
     omega
    ·obtain ⟨l', p', a1, a2, a3⟩ := hown g hin
     exact m1 ((hkl l).2 (by rw [p3.inj l l' p p' g ⟨o, m2⟩ (hlive l' a1) hc a2 hw a3]; exact a1))
   obtain ⟨hps, hlen⟩ := a6H (X := X) (c := Y8 c nb pls') (nb := nb) ht hpost.tt a0h
   have htk := RVs.take r.rs.length _ _ hps
   have hdr := RVs.drop r.rs.length _ _ hps
   rw [List.take_left' hpost.len] at htk
   rw [List.drop_left' hpost.len] at hdr
   have hold : ∀ l, (j8 s O acc.pub).O l ≠ none -> Y8 c nb pls' l = c l := fun l hl => by
    have key : ∀ {ps : List Pl} {c : Cx} {nb : Nat}, (l < nb \/ nb + ps.length <= l) -> Y8 c nb ps l = c l := by
     intro ps
     induction ps with
     | nil => intro c nb _; rfl
     | cons p ps ih =>
       intro c nb h
       simp only [Y8]
       rw [ih (by simp only [List.length_cons] at h; omega)]
       have : l ≠ nb := by simp only [List.length_cons] at h; omega
       simp [J5, this]
    apply key
    apply Classical.byContradiction
    intro hn
    rw [not_or] at hn
    exact hl (a0d.1 (hfree2 l (a0C.2 ⟨by omega, by rw [hob.1]; omega⟩)).1)
   have hvarb : ∀ {gv : List (Nat × TypeId × V)} {bs : List Nat}, a14 c O gv bs -> ∀ x ∈ gv, ∀ p g, c x.1 = some p -> p.w = some g -> g ∈ bs := by
    intro gv
    induction gv with
    | nil => intro bs _ x hx; cases hx
    | cons y r ih =>
      intro bs ⟨b, bs', ls, e1, e2, e3, e4⟩ x hx p g hc hw
      subst e1
      rcases List.mem_cons.1 hx with rfl | hx
      ·rw [e3] at hc; cases hc; cases hw; simp
      ·simp [ih e4 x hx p g hc hw]
   have hat : ∀ (i : Nat) (y : Nat × V) (p : PV I), (acc.gv.map fun x => (x.1, x.2.2))[i]? = some y -> ((pvT tb nb (r.rs ++ k8 r.ps) res).drop r.rs.length)[i]? = some p -> ∃ nb' z, p = pvV tb nb' y.2 z := fun i y p hi hp => by
    refine b0I (tb := tb) (vs := r.rs ++ k8 r.ps) (nb := nb) (x := res) (i := r.rs.length + i) (v := y.2) ?_ (by rw [List.getElem?_drop] at hp; exact hp)
    rw [List.getElem?_append_right (by simp), Nat.add_sub_cancel_left, <- a1u, <- k6]
    rw [List.getElem?_map] at hi
    simp only [List.map_map, List.getElem?_map]
    cases hgi : acc.gv[i]? with
    | none => rw [hgi] at hi; cases hi
    | some z => rw [hgi] at hi; cases hi; rfl
   have h6 := Rel.asgW (pls := pls') ht p3 h5 (a24 hpost.out k3 k6 hgvO) hdr (fun i y p hi hp hag => by
    obtain ⟨nb', z, e⟩ := hat i y p hi hp
    rw [e]; exact a8G hag)
    (fun i y p hi hp hag => by
      obtain ⟨nb', z, e⟩ := hat i y p hi hp
      rw [e]; exact a8I hag)
    (fun l hl => hold l (by
      simp only [List.mem_map] at hl
      obtain ⟨x, hx, rfl⟩ := hl
      obtain ⟨ls, e⟩ := hgvO x hx
      rw [e]; simp))
    (fun l hl p g hc hw => by
      simp only [List.mem_map] at hl
      obtain ⟨x, hx, rfl⟩ := hl
      exact p3.mine x.1 p g (hlive _ (k5 x hx)) hc hw)
    (fun l ⟨o, ho⟩ => by
      by_cases hm : l ∈ rng nb (obT (r.rs ++ k8 r.ps) res).length
      ·right
       obtain ⟨a1, a2⟩ := a0C.1 hm
       have hlt : l - nb < pls'.length := by rw [<- hob.1]; omega
       refine ⟨pls'[l - nb], List.getElem_mem _, ?_⟩
       have := a0h (c := c) (nb := nb) (l - nb) pls'[l - nb] (List.getElem?_eq_getElem hlt)
       rw [show nb + (l - nb) = l from by omega] at this
       exact this
      ·left
       have ho' : K5 (v8 kl (j8 s O acc.pub).O) nb (obT (r.rs ++ k8 r.ps) res) l = some (some o) := ho
       rw [K8 hm] at ho'
       obtain ⟨_, m2⟩ := v7 ho'
       exact ⟨⟨o, m2⟩, hold l (by rw [m2]; simp)⟩)
    (fun l hl p hc g hw hm => by
      simp only [List.mem_map] at hl
      obtain ⟨x, hx, rfl⟩ := hl
      exact (hpost.own g hm).2 (hvarb k3 x hx p g hc hw))
    (fun l hl p hc g hw => by
      simp only [List.mem_map] at hl
      obtain ⟨x, hx, rfl⟩ := hl
      obtain ⟨ls, e⟩ := hgvO x hx
      exact (((p3.owned ⟨_, e⟩ hc hw).sub (s' := s2) fun l E E' u xs q e => (v7 e).2).step h2 hst hn2 hi2).grow h3 h4 (a2b hob.not))
   refine ⟨_, h4, ?_, by rw [hpost.ret]; exact b1G htk⟩
   have hO2 : K5 (apU s.O (Z0 O acc.pub ++ a0m acc.all ++ a19 acc.gv ((pvT tb nb (r.rs ++ k8 r.ps) res).drop r.rs.length))) nb (obT (r.rs ++ k8 r.ps) res) =
    asgW (j8 s O acc.pub).O (acc.gv.map fun x => (x.1, x.2.2)) (acc.gv.map (·.1)) ((pvT tb nb (r.rs ++ k8 r.ps) res).drop r.rs.length) (K5 (v8 kl (j8 s O acc.pub).O) nb (obT (r.rs ++ k8 r.ps) res)) := by
    rw [a0W, hOpub]
    exact a9W fun x hx => ⟨hgvO x hx, fun hm => (hfree2 x.1 hm).2 (List.mem_map.2 ⟨x, hx, rfl⟩)⟩
   have e : apE s nb ⟨a4N ((pvT tb nb (r.rs ++ k8 r.ps) res).take r.rs.length), Z0 O acc.pub ++ a0m acc.all ++ a19 acc.gv ((pvT tb nb (r.rs ++ k8 r.ps) res).drop r.rs.length), obT (r.rs ++ k8 r.ps) res⟩ =
    ⟨s.n, s.F, asgW (j8 s O acc.pub).O (acc.gv.map fun x => (x.1, x.2.2)) (acc.gv.map (·.1)) ((pvT tb nb (r.rs ++ k8 r.ps) res).drop r.rs.length) (K5 (v8 kl (j8 s O acc.pub).O) nb (obT (r.rs ++ k8 r.ps) res)), s.nx⟩ := by
    simp only [apE, hO2]
   rw [e]
   exact h6
  obtain ⟨pls0, k1, k2, k3, k4, k5, k6⟩ := core (fun _ => False) (fun _ h => h.elim)
  obtain ⟨pls, k1', k2', _⟩ := core (fun b => τ1.N <= b \/ b ∈ ows pls0) (fun b hb => hb.imp id fun hb => by
   obtain ⟨l, p, a1, a2, a3⟩ := k2.mem b hb
   refine ⟨l, hgr l a1, hlv l a1 ((k4 l a1).imp id fun ⟨T, v, hm⟩ => ?_), p, a2, a3⟩
   have : ∀ {gv : List (Nat × TypeId × V)} {bs : List Nat}, a14 c O gv bs -> ∀ x ∈ gv, ∃ ls, O x.1 = some (some (.var x.2.1 ls true)) := by
    intro gv
    induction gv with
    | nil => intro bs _ x hx; cases hx
    | cons y r ih =>
      intro bs ⟨b, bs', ls, _, e2, _, e4⟩ x hx
      rcases List.mem_cons.1 hx with rfl | hx
      ·exact ⟨ls, e2⟩
      ·exact ih e4 x hx
   obtain ⟨ls, e⟩ := this k3 _ hm
   exact ⟨T, ls, e⟩)
  have hsame : ows pls = ows pls0 := by
   have : ∀ {rows : List (Option Nat)} {p q : List Pl}, At c rows p -> At c rows q -> ows p = ows q := by
    intro rows
    induction rows with
    | nil => intro p q h1 h2; cases h1; cases h2; rfl
    | cons x r ih =>
      intro p q ⟨a, b9X, e1, g1, h1⟩ ⟨b, bs, e2, g2, h2⟩
      subst e1
      subst e2
      have hr := ih h1 h2
      simp only [ows, List.filterMap_cons] at hr ⊢
      have : a.w = b.w := by
       cases x with
       | none => simp only at g1 g2; rw [g1, g2]
       | some l => simp only at g1 g2; rw [g1] at g2; cases g2; rfl
      rw [this, hr]
   exact this k2' k2
  rw [<- hsame] at k1'
  exact fin pls k1' k2' k3 k4 k5 k6
theorem z8 (ht : TabOk P tb) {r : Row I} (hr : y0 P r) : EntOk P (j0 tb r) :=
 a9U (C := fun _ _ => True) (chk := fun _ _ => true) ht (fun σ a vs pls res h _ => hr σ a vs pls res h) (fun _ _ _ _ _ _ _ _ _ _ _ _ _ => trivial)
def a8N : List (PV I) -> List (Option (PV I)) -> Bool
 | [], [] => true
 | .ptr a 0 :: r, some (.ptr b 0) :: r' => Nat.beq a b && a8N r r'
 | _, _ => false
def a8S (T : TypeId) (f : FuncId) (j : Nat) (is : List Nat) (O : Obs I) (ps : List (PV I)) : Bool := match ps[j]? with
 | some (.ptr l 0) => match O l with
   | some (some (.var T' [.clo f' ls] _)) => Nat.beq T T' && (Nat.beq f f' && a8N ls (is.map (ps[·]?)))
   | _ => false
 | _ => false
def b0L (T : TypeId) (f : FuncId) (j : Nat) (is : List Nat) (w : World) (vs : List Value) : Prop :=
 ∃ b b9X, vs[j]? = some (.pointer (some ⟨b, 0, none⟩)) /\ w.heap[b]? = some (.cells #[.func (.func f) #[] (List.toArray b9X)] T (0, 0)) /\ is.map (vs[·]?) = b9X.map some
theorem b3b : ∀ {ls : List (PV I)} {is : List Nat} {ps : List (PV I)} {vs b9X : List Value}, a8N ls (is.map (ps[·]?)) = true -> RVs X c σ ps vs -> RVs X c σ ls b9X -> is.map (vs[·]?) = b9X.map some
 | [], [], _, _, b9X, _, _, ha => by
   simp only [RVs] at ha
   subst ha; rfl
 | [], _ :: _, _, _, _, h, _, _ => by simp [a8N] at h
 | p :: r, [], _, _, _, h, _, _ => by cases p <;> simp [a8N] at h
 | p :: r, i :: is, ps, vs, b9X, h, hv, ha => by
   simp only [RVs] at ha
   obtain ⟨a, as', rfl, h1, h2⟩ := ha
   simp only [List.map_cons] at h ⊢
   unfold a8N at h
   split at h
   ·rename_i e1 _
    cases e1
   ·rename_i l0 r0 l1 r1 e1 e2
    obtain ⟨e3, e4⟩ := List.cons.inj e1
    obtain ⟨hps, hr1⟩ := List.cons.inj e2
    subst e3
    subst e4
    subst hr1
    simp only [Bool.and_eq_true] at h
    have e := Nat.eq_of_beq_eq_true h.1
    subst e
    obtain ⟨v, hvi, hrv⟩ := RVs.at_ _ _ hv i _ hps
    rw [hvi, b3b h.2 hv h2]
    simp only [RV] at hrv h1
    obtain ⟨b, w, k1, rfl⟩ := hrv
    obtain ⟨b', w', k2, rfl⟩ := h1
    rw [k1] at k2
    cases k2
    rfl
   ·cases h
theorem b0o {T : TypeId} {f : FuncId} {j : Nat} {is : List Nat} {ps : List (PV I)} {vs : List Value} (hO : ∀ l o, O l = some (some o) -> s.O l = some (some o)) (h : Rel X c σ s n F) (hc : a8S T f j is O ps = true) (hv : RVs X c σ ps vs) : b0L T f j is σ.w vs := by
 unfold a8S at hc
 split at hc
 ·rename_i l hj
  split at hc
  ·rename_i T' f' ls w' ho
   simp only [Bool.and_eq_true] at hc
   have eT := Nat.eq_of_beq_eq_true hc.1
   have ef := Nat.eq_of_beq_eq_true hc.2.1
   subst eT
   subst ef
   obtain ⟨v, hvj, hrv⟩ := RVs.at_ _ _ hv j _ hj
   simp only [RV] at hrv
   obtain ⟨b, w, k1, rfl⟩ := hrv
   obtain ⟨b', cs, k2, k3, k4, _⟩ := h.objs l _ (hO _ _ ho)
   rw [k1] at k2
   cases k2
   simp only [RG] at k3
   obtain ⟨a, r, rfl, hcl, rfl⟩ := k3
   rcases hcl with hcl | ⟨_, u, rfl, hu⟩
   ·exact hcl.elim
   simp only [RV] at hu
   obtain ⟨b9X, rfl, has⟩ := hu
   exact ⟨b, b9X, hvj, by simpa using k4, b3b hc.2.2 hv has⟩
  ·cases hc
 ·cases hc
def b7d (T : TypeId) (f : FuncId) (l : Nat) (j : Nat) (is : List Nat) (s : St I) : St I := w3 s l (some (.var T [.clo f (is.filterMap s.F)] false))
theorem b34 : ∀ {is : List Nat} {ps : List (PV I)} {vs b9X : List Value}, is.all (fun i => Nat.blt i ps.length) = true -> RVs X c σ ps vs -> is.map (vs[·]?) = b9X.map some -> RVs X c σ (is.filterMap (ps[·]?)) b9X
 | [], _, _, b9X, _, _, e => by
   cases b9X with
   | nil => simp only [List.filterMap_nil, RVs]
   | cons => cases e
 | i :: is, ps, vs, b9X, hl, hv, e => by
   cases b9X with
   | nil => cases e
   | cons a b9X =>
     simp only [List.map_cons, List.cons.injEq] at e
     simp only [List.all_cons, Bool.and_eq_true] at hl
     have hi : i < ps.length := by
      have := hl.1
      rw [Nat.blt_eq] at this
      exact this
     have hp := List.getElem?_eq_getElem hi
     obtain ⟨v, hvi, hrv⟩ := RVs.at_ _ _ hv i _ hp
     rw [e.1] at hvi
     cases hvi
     rw [List.filterMap_cons, hp]
     simp only [RVs]
     exact ⟨a, b9X, rfl, hrv, b34 hl.2 hv e.2⟩
theorem b6K {T : TypeId} {f : FuncId} {l j : Nat} {is : List Nat} {nt : Nat} {ps : List Pk} {a : X4 I ps} {vs : List Value} (hl : (a35 tb nt ps a).O l = some (some (.var T [.any] false))) (hj : (W0 tb 0 ps a)[j]? = some (.ptr l 0)) (his : is.all (fun i => Nat.blt i (W0 tb 0 ps a).length) = true)
 (h : Rel X c σ (a35 tb nt ps a) nt F) (hv : RVs X c σ (W0 tb 0 ps a) vs) (hC : b0L T f j is σ.w vs) : Rel X c σ (b7d T f l j is (a35 tb nt ps a)) nt F := by
 obtain ⟨b, b9X, h1, h2, h3⟩ := hC
 obtain ⟨v, hvj, hrv⟩ := RVs.at_ _ _ hv j _ hj
 rw [h1] at hvj
 cases hvj
 simp only [RV] at hrv
 obtain ⟨b', w, k1, e⟩ := hrv
 cases e
 obtain ⟨b', cs, k2, k3, k4, k5, k6⟩ := h.objs l _ hl
 rw [k1] at k2
 cases k2
 refine h.revive ⟨b, [.func (.func f) #[] (List.toArray b9X)], k1, ?_, by simpa using h2, k5, k6⟩ fun p g hp hg => ?_
 ·simp only [RG]
  refine ⟨_, [], rfl, .inr ⟨rfl, _, rfl, ?_⟩, rfl⟩
  simp only [RV]
  exact ⟨b9X, rfl, b34 his hv h3⟩
 ·exact ⟨h.mine l p g ⟨_, hl⟩ hp hg, h.owned ⟨_, hl⟩ hp hg, fun l' p' hne hlv hp' hg' => hne (h.inj l' l p' p g hlv ⟨_, hl⟩ hp' hp hg' hg)⟩
end
end Go.Qx
end
section
namespace Go.Qx
open Go Go.RowKit Go.Sx
section
variable {I : TypeId -> Type} [∀ E, Rp (I E)] {P : Program} {tb : Tab I} {X : Cxt} {c c' : Cx} {σ τ : S} {s : St I} {n : Nat} {F : Fr} {O : Obs I}
structure Rio (I : TypeId -> Type) where
 f : FuncId
 E : TypeId
 ps : List Pk
 rs : List V
 run : List (I E) -> b3k I ps (TyT I (rs ++ k8 ps) × List (I E))
def a8J (P : Program) (r : Rio I) : Prop := ∀ (σ : S) (xs : List (I r.E)) (a : X4 I r.ps) (vs : List Value) (pls : List Pl) (res : TyT I (r.rs ++ k8 r.ps)) (ys : List (I r.E)),
 a2i P (fun b => σ.N <= b \/ b ∈ ows pls) σ (.row r.E false :: r.ps) (xs, a) vs pls -> (ows pls).Nodup -> a5C r.ps (r.run xs) a = some (res, ys) ->
  a1X P r.f vs σ (Stp (fun b => b ∈ ows pls) σ) fun v τ => ∃ ws us pls', Post σ τ (.row r.E false :: r.ps) r.rs vs res (ows pls) v ws us pls' /\
   ∃ A k ow, pls.head? = some ⟨A, k, xs.length, ow⟩ /\ ys.length = xs.length /\ J6 ow false r.E τ ys A k /\ ∀ g, ow = some g -> g ∉ ows pls'
def b8D (tb : Tab I) (E : TypeId) (ps : List Pk) (rs : List V) (results : List ResultVar) : Ex -> St I -> Option (TyT I (rs ++ k8 ps) × List (I E)) := fun e s => match e with
 | .exit _ => none
 | _ => Option.bind (a7l tb s results) fun a => Option.bind (a07 s 1 ps) fun b => Option.bind (a0y tb s.O (rs ++ k8 ps) (a ++ b)) fun x => Option.bind (a4K tb s.O (.row E false) (.vw 0)) fun y =>
    bif a2E x.2.1 (y.2.2 ++ x.2.2) && a2R y.2.1 && Nat.beq a.length rs.length then some (x.1, y.1) else none
def b9p (tb : Tab I) (disp : K6 I) (H : Hints I) (cd : Code) (nt : Nat) (E : TypeId) (ps : List Pk) (rs : List V) (results : List ResultVar) (xs : List (I E)) (a : X4 I ps) : Option (TyT I (rs ++ k8 ps) × List (I E)) :=
 a38 tb disp H cd 1 (TyT I (rs ++ k8 ps) × List (I E)) (a35 tb nt (.row E false :: ps) (xs, a)) (b8D tb E ps rs results)
def F0v (vs : List Value) : Value := vs.headD undef
omit [∀ E, Rp (I E)] in
theorem b1z {E : TypeId} {fl : Bool} {l : Nat} {y : List (I E) × List Nat × List (Option Nat)} (h : a4K tb O (.row E fl) (.vw l) = some y) : y.2.2 = [some l] := by
 simp only [a4K] at h
 split at h
 ·replace h := bind_some h
  obtain ⟨ys, hys, h⟩ := h
  cases fl <;> rename_i fl' _ <;> cases fl' <;> first | (cases h; rfl) | cases h
 ·cases h
theorem b7K (ht : TabOk P tb) {M : Nat -> Prop} (hM : ∀ b, X.M b -> M b) (hX : X.P = P) {E : TypeId} {ps : List Pk} {xs : List (I E)} {a : X4 I ps} {vs : List Value} {pls : List Pl} {nt : Nat} (hA : a2i P M σ (.row E false :: ps) (xs, a) vs pls)
 (hr : Rel X (fun _ => none) σ (⟨nt, fun _ => none, fun _ => none, 0⟩ : St I) nt F) (hnd : (ows pls).Nodup) (hMg : ∀ g ∈ ows pls, X.M g) :
 ∃ c', Rel X c' σ ⟨nt, fun _ => none, a8g tb 0 (.row E false :: ps) (xs, a) (fun _ => none), 0⟩ nt F /\ RVs X c' σ (W0 tb 0 (.row E false :: ps) (xs, a)) vs /\ ∃ A k ow, pls.head? = some ⟨A, k, xs.length, ow⟩ /\ c' 0 = some ⟨A, k, xs.length, ow⟩ := by
 obtain ⟨v, vs', p1, p2, e1, e2, ⟨A, k, ow, e4, h1, e3⟩, h2⟩ := hA
 have h1 : J6 ow false E σ xs A k := h1
 have e4 : v = .slice A xs.length k := e4
 have e3 : p1 = [⟨A, k, xs.length, ow⟩] := e3
 have h2 : a2i P M σ ps a vs' p2 := h2
 subst e3
 subst e2
 obtain ⟨a1, a2⟩ := hr.newRow (nb := 0) (E := E) (xs := xs) (fl := false) rfl h1 fun g hg => ⟨hMg g (by simp [ows, hg]), noN.notIn (fun _ _ _ _ _ _ h => by cases h), fun l' p' ⟨_, hl⟩ => by cases hl⟩
 obtain ⟨c', k1, k2, k3⟩ := a5m (nb := 1) (s := w3 (⟨nt, fun _ => none, fun _ => none, 0⟩ : St I) 0 (some (.row E xs false))) (done := ows [⟨A, k, xs.length, ow⟩]) ht hM hX h2 a2 (fun l hl => by
  show upF _ 0 _ l = none
  rw [w7 (by omega)]) (fun l p g ⟨o, ho⟩ hc hw => by
  rcases j6 ho with ⟨e, _⟩ | ⟨e, ho'⟩
  ·subst e
   rw [w5] at hc
   cases hc
   simp only at hw
   subst hw
   simp [ows]
  ·cases ho') (by rw [<- a0k]; exact hnd) (fun g hg => hMg g (by rw [a0k]; simp [hg])) (noN.set fun _ _ _ _ _ _ h => by cases h)
 have hc0 := k1 _ _ (w5 _ _ _)
 refine ⟨c', k2, ?_, A, k, ow, rfl, hc0⟩
 simp only [W0, RVs, RV]
 exact ⟨v, vs', e1, ⟨_, hc0, e4⟩, k3⟩
theorem b8J (ht : TabOk P tb) {r : Rio I} {fn : Func} {cd : Code} (nt : Nat) {rl : List ResultVar} (hf : P.funcs[r.f]? = some fn) (hb : fn.body = some cd) (hname : (fn.name == "runtime.NumGoroutine") = false)
 (hn : fn.ntmps = nt) (hres : fn.results.toList = rl) (hle : Nat.ble (r.ps.length + 1) nt = true)
 (hspec : ∀ (X : Cxt) (c : Cx) (σ : S) (F : Fr) (Q : Exit -> Act -> World -> Prop) (xs : List (I r.E)) (a : X4 I r.ps) (res : TyT I (r.rs ++ k8 r.ps) × List (I r.E)), X.P = P -> Rel X c σ (a35 tb nt (.row r.E false :: r.ps) (xs, a)) nt F -> a5C r.ps (r.run xs) a = some res ->
   (∀ (e : Ex) (s' : St I) (c' : Cx) (τ : S) (F' : Fr), b8D tb r.E r.ps r.rs rl e s' = some res -> Cx.le c c' -> Rel X c' τ s' nt F' -> Stp X.M σ τ -> Q (a0T e) (fr nt F') τ.w) -> cd.wp P Q (fr nt F) σ.w) : a8J P r := by
 intro σ xs a vs pls res ys hA hnd happ
 let X : Cxt := ⟨P, σ.N, fun b => b ∈ ows pls⟩
 have hlen : vs.length = r.ps.length + 1 := hA.len
 have hini : Rel X (fun _ => none) σ (⟨nt, fun _ => none, fun _ => none, 0⟩ : St I) nt (a1F vs) :=
  ⟨rfl, (fun _ _ h => by cases h), (fun _ _ h => by cases h), (fun _ _ _ _ _ ⟨_, h⟩ => by cases h), (fun _ _ _ ⟨_, h⟩ => by cases h), fun _ _ => rfl, Nat.le_refl _, noN.nests fun _ _ _ _ _ _ h => by cases h⟩
 obtain ⟨c1, i2, i3, A0, k0, ow0, hpl0, hc01⟩ := b7K (tb := tb) (X := X) ht (fun b hb => hb) rfl hA hini hnd (fun g hg => .inr hg)
 have hrel : Rel X c1 σ (a35 tb nt (.row r.E false :: r.ps) (xs, a)) nt (a1F vs) := by
  refine ⟨rfl, fun i p hp => ?_, i2.objs, i2.inj, i2.mine, i2.nom, i2.base, i2.nst⟩
  obtain ⟨v, hv, hr⟩ := RVs.at_ _ _ i3 i p hp
  have : a1F vs i = v := by simp [a1F, List.getD, hv]
  rw [this]; exact hr
 refine .inl ⟨⟨fn, cd, hf, hb, hname⟩, calls_of_wp hf hb ?_⟩
 have hle' := Nat.le_of_ble_eq_true hle
 have e : (⟨vs.toArray ++ Array.replicate (fn.ntmps - vs.toArray.size) undef, []⟩ : Act) = fr nt (a1F vs) := by
  rw [hn]
  simp only [fr]
  congr 1
  apply Array.ext
  ·simp; omega
  ·intro i h1 h2
   simp only [Array.getElem_ofFn, a1F, Array.getElem_append]
   split
   ·rename_i hi; simp at hi; simp [List.getD, List.getElem?_eq_getElem hi]
   ·rename_i hi; simp at hi; simp [List.getD, List.getElem?_eq_none hi]
 rw [e]
 refine hspec X c1 σ (a1F vs) _ xs a (res, ys) rfl hrel happ fun ex s' c2 τ F' hfin hle2 hr st => ?_
 have key : (Option.bind (a7l tb s' rl) fun a => Option.bind (a07 s' 1 r.ps) fun b => Option.bind (a0y tb s'.O (r.rs ++ k8 r.ps) (a ++ b)) fun x => Option.bind (a4K tb s'.O (.row r.E false) (.vw 0)) fun y =>
  bif a2E x.2.1 (y.2.2 ++ x.2.2) && a2R y.2.1 && Nat.beq a.length r.rs.length then some (x.1, y.1) else none) = some (res, ys) ->
  ∃ v, (results fn (fr nt F').tmps).run P τ.w = .ok v τ.w /\ ∃ v' τ', Ending.returned v = .returned v' /\ τ'.w = τ.w /\ Stp (fun b => b ∈ ows pls) σ τ' /\ ∃ ws us pls', Post σ τ' (.row r.E false :: r.ps) r.rs vs res (ows pls) v' ws us pls' /\
   ∃ A k ow, pls.head? = some ⟨A, k, xs.length, ow⟩ /\ ys.length = xs.length /\ J6 ow false r.E τ' ys A k /\ ∀ g, ow = some g -> g ∉ ows pls' := by
  intro hfin
  obtain ⟨ra, hra, hfin⟩ := bind_some hfin
  obtain ⟨rb, hrb, hfin⟩ := bind_some hfin
  obtain ⟨y, hy, hfin⟩ := bind_some hfin
  obtain ⟨yy, hyy, hfin⟩ := bind_some hfin
  obtain ⟨hrows, hfin⟩ := y4 hfin
  cases hfin
  simp only [Bool.and_eq_true] at hrows
  obtain ⟨q1, q2⟩ := a10 hrows.1.1
  have hnil := a06 hrows.1.2
  rw [List.filterMap_append, List.nodup_append] at q1
  have r1 := q1.2.1
  have r2 : ∀ l, some l ∈ y.2.2 -> l ∉ y.2.1 := fun l hl => q2 l (by simp [hl])
  have hal := Nat.eq_of_beq_eq_true hrows.2
  obtain ⟨τ', p1, p2, p3, p4, p5, p6⟩ := hr.pubs (O := s'.O) (fun _ _ h => h) y.2.1
  obtain ⟨ws, w1, w2⟩ := a8T ht hr hra
  have hrb' : a07 (j8 s' s'.O y.2.1) 0 (.row r.E false :: r.ps) = some rb := by
   show a07 (j8 s' s'.O y.2.1) 1 r.ps = some rb
   have : ∀ {ps : List Pk} {nb : Nat} {qs : List (PV I)}, a07 s' nb ps = some qs -> a07 (j8 s' s'.O y.2.1) nb ps = some qs := by
    intro ps
    induction ps with
    | nil => intro nb qs h; exact h
    | cons p r ih =>
      intro nb qs h
      cases p with
      | d k => exact ih h
      | fn ks rs => exact ih h
      | row E fl => exact ih h
      | bor E => exact ih h
      | var T v w =>
        cases w with
        | false => exact ih h
        | true =>
          simp only [a07] at h ⊢
          split at h
          ·rename_i T' ls ho
           rw [b24 ho]
           replace h := y4 h
           obtain ⟨hT, h⟩ := h
           simp only [hT, cond_true]
           replace h := bind_some h
           obtain ⟨p, hp, h⟩ := h
           replace h := bind_some h
           obtain ⟨ps', hps, h⟩ := h
           rw [hp, Option.bind_some, ih hps]
           exact h
          ·cases h
   exact this hrb
  have hvs : RVs X c2 τ' (W0 tb 0 (.row r.E false :: r.ps) (xs, a)) vs := RVs.step (st.trans p2) _ _ (RVs.grow hle2 _ _ i3)
  obtain ⟨us, u1, u2, u3⟩ := a3a ht p3 (ps := .row r.E false :: r.ps) (a := (xs, a)) hrb' hvs
  have hRV := RVs.app _ _ _ _ (RVs.step p2 _ _ w1) u1
  obtain ⟨pls', t1, t2⟩ := a5e ht p4 p5 (ls := y.2.1) (rows := y.2.2) hy (fun l hl => hl) (fun l hl => r2 l hl) hRV
  have hlive := a52 (ls := y.2.1) (rows := y.2.2) hy
  have hl3 : ∀ l, some l ∈ y.2.2 -> k9 (j8 s' s'.O y.2.1) l := fun l hl => by
   obtain ⟨E, xs, fl, ho⟩ := hlive l hl
   exact ⟨_, (p6 l (r2 l hl)).trans ho⟩
  have h00 : RV X c2 τ' (.vw 0 : PV I) (F0v vs) := by
   simp only [W0, RVs] at hvs
   obtain ⟨v0, vs0, e0, h0, _⟩ := hvs
   rw [e0]; exact h0
  obtain ⟨pls0, z1, z2⟩ := a6I ht p4 p5 (ls := yy.2.1) (rows := yy.2.2) hyy (fun l hl => by rw [hnil] at hl; cases hl) (fun l hl => q2 l (by simp [hl])) h00
  have hc0 := hle2 _ _ hc01
  have hy0 : yy.2.2 = [some 0] := b1z hyy
  rw [hy0] at z2
  obtain ⟨pz, pzs, e5, e6, e7⟩ := z2
  cases e7
  obtain ⟨A1, k1, ow1, e8, e9, e10⟩ := z1
  rw [e5] at e9
  cases e9
  have e6' : c2 0 = some ⟨A1, k1, List.length yy.1, ow1⟩ := e6
  rw [hc0, Option.some.injEq, Pl.mk.injEq] at e6'
  obtain ⟨rfl, rfl, hlen2, rfl⟩ := e6'
  refine ⟨a32 ws, a9f (by rw [hres]; exact w2), a32 ws, τ', rfl, p1, (st.trans p2).mono fun b hb hM => ?_, ws, us, pls', ⟨rfl, ?_, t1, u2, At.nodup p3 t2 r1 hl3, fun g hg => ?_⟩, _, _, _, hpl0, hlen2.symm, e10, fun g hg hm => ?_⟩
  ·rcases hM with h | h
   ·have : σ.N <= b := h
    omega
   ·exact h
  ·rw [RVs.len _ _ w1, hal]
  ·obtain ⟨l, p, a1, a2, a3⟩ := t2.mem g hg
   refine ⟨p3.mine l p g (hl3 l a1) a2 a3, fun hm => ?_⟩
   obtain ⟨l', p', T, ls, w, ho', hc', hw'⟩ := u3 g hm
   have e := p3.inj l l' p p' g (hl3 l a1) ⟨_, ho'⟩ a2 hc' a3 hw'
   subst e
   obtain ⟨E, xs, fl, ho⟩ := hlive l a1
   rw [p6 l (r2 l a1), ho] at ho'
   cases ho'
  ·obtain ⟨l, p, a1, a2, a3⟩ := t2.mem g hm
   have hl0 : k9 (j8 s' s'.O y.2.1) 0 := by
    obtain ⟨E, xs, fl, ho⟩ := a29 (ls := yy.2.1) (rows := yy.2.2) hyy 0 (by rw [hy0]; simp)
    exact ⟨_, (p6 0 (q2 0 (by rw [hy0]; simp))).trans ho⟩
   have e := p3.inj 0 l _ p g hl0 (hl3 l a1) hc0 a2 hg a3
   subst e
   rw [hy0] at q1
   exact q1.2.2 0 (by simp) 0 (List.mem_filterMap.2 ⟨_, a1, rfl⟩) rfl
 cases ex with
 | exit i => cases hfin
 | normal =>
   obtain ⟨v, h1, v', τ', h2, h3⟩ := key hfin
   exact ⟨rfl, v, h1, v', τ', h2, h3⟩
 | ret =>
   obtain ⟨v, h1, v', τ', h2, h3⟩ := key hfin
   exact ⟨rfl, v, h1, v', τ', h2, h3⟩
theorem b8v (ht : TabOk P tb) {disp : K6 I} (hd : DispOk P disp) (hmx : P.follows .mixedOrders = true) {r : Rio I} {fn : Func} {cd : Code} (nt : Nat) {H : Hints I} {rl : List ResultVar} (hf : P.funcs[r.f]? = some fn) (hb : fn.body = some cd) (hname : (fn.name == "runtime.NumGoroutine") = false)
 (hn : fn.ntmps = nt) (hres : fn.results.toList = rl) (hle : Nat.ble (r.ps.length + 1) nt = true) (hcode : a0s H cd 1 = true) (hrun : r.run = fun xs => a91 r.ps (b9p tb disp H cd nt r.E r.ps r.rs rl xs)) : a8J P r :=
 b8J ht nt hf hb hname hn hres hle fun X c σ F Q xs a res hX hrel happ hk => by
  rw [hrun, a7m] at happ
  exact a0V ht hd hmx cd 1 hcode _ _ _ res X c σ F Q hX happ hrel fun e s' c' τ F' g1 g2 g3 g4 _ => hk e s' c' τ F' g1 g2 g3 g4
def a8Q (tb : Tab I) (r : Rio I) (disp : K6 I) (ρ : Type) (O : Obs I) (nb : Nat) (ps : List (PV I)) (k : Ef I -> Option ρ) : Option ρ := match ps with
 | .vw l :: ps' => Option.bind (a4i tb disp O (roO [] (v8 (grN O (.row r.E false :: r.ps) (.vw l :: ps')) O)) nb (.row r.E false :: r.ps) (.vw l :: ps')) fun a =>
   bif b1t (grN O (.row r.E false :: r.ps) (.vw l :: ps')) a.2 then Option.bind (a5C r.ps (r.run a.1.1) a.1.2) fun res =>
    k ⟨a4N ((pvT tb nb (r.rs ++ k8 r.ps) res.1).take r.rs.length), (Z0 O a.2.pub ++ a0m a.2.all ++ a19 a.2.gv ((pvT tb nb (r.rs ++ k8 r.ps) res.1).drop r.rs.length)) ++ [(l, some (.row r.E res.2 false))], obT (r.rs ++ k8 r.ps) res.1⟩ else none
 | _ => none
def b6E (tb : Tab I) (r : Rio I) : Ans I := ⟨r.f, a8Q tb r⟩
theorem b39 (ht : TabOk P tb) {r : Rio I} (hr : a8J P r) : EntOk P (b6E tb r) := by
 refine ⟨fun disp ρ O nb ps k => ?_, fun disp hd O nb ps ef he => ?_⟩
 ·show a8Q tb r disp ρ O nb ps k = (a8Q tb r disp (Ef I) O nb ps some).bind k
  unfold a8Q
  split
  ·rename_i l0 ps'
   simp only [Option.bind_assoc]
   refine b4u fun a => ?_
   cases b1t (grN O (.row r.E false :: r.ps) (.vw l0 :: ps')) a.2
   ·rfl
   ·simp only [cond_true, Option.bind_assoc]
    rfl
  ·rfl
 ·intro X c σ s n F vs hX hO h hvs hfree
  have he' : a8Q tb r disp (Ef I) O nb ps some = some ef := he
  unfold a8Q at he'
  split at he'
  rotate_left
  ·cases he'
  rename_i l0 ps'
  replace he' := bind_some he'
  obtain ⟨a, ha, he'⟩ := he'
  replace he' := y4 he'
  obtain ⟨hchk, he'⟩ := he'
  replace he' := bind_some he'
  obtain ⟨res, hres, he'⟩ := he'
  cases he'
  obtain ⟨a, acc⟩ := a
  obtain ⟨res, ys⟩ := res
  have hrow0 : ∃ rest, acc.all = some l0 :: rest := by
   obtain ⟨x, hx, e⟩ := bind_some ha
   obtain ⟨y, hy, e⟩ := bind_some e
   cases e
   exact ⟨y.2.all, by show x.2.2 ++ y.2.all = _; rw [b1z hx]; rfl⟩
  have hO0 : ∃ E, ∃ xs : List (I E), ∃ fl, O l0 = some (some (.row E xs fl)) := by
   obtain ⟨x, hx, e⟩ := bind_some ha
   exact a29 (ls := x.2.1) (rows := x.2.2) hx l0 (by rw [b1z hx]; simp)
  have hfree : a0g (apU s.O (Z0 O acc.pub ++ a0m acc.all ++ a19 acc.gv ((pvT tb nb (r.rs ++ k8 r.ps) res).drop r.rs.length))) nb (obT (r.rs ++ k8 r.ps) res) = true /\ l0 ∉ rng nb (obT (r.rs ++ k8 r.ps) res).length := by
   have hf : a0g (apU s.O ((Z0 O acc.pub ++ a0m acc.all ++ a19 acc.gv ((pvT tb nb (r.rs ++ k8 r.ps) res).drop r.rs.length)) ++ [(l0, some (Ob.row r.E ys false))])) nb (obT (r.rs ++ k8 r.ps) res) = true := hfree
   rw [a0W] at hf
   rw [X8] at hf ⊢
   have hne : l0 ∉ rng nb (obT (r.rs ++ k8 r.ps) res).length := fun hm => by
    have := hf l0 hm
    simp [apU, w6] at this
   refine ⟨fun l hl => ?_, hne⟩
   have h1 := hf l hl
   have e : l ≠ l0 := fun e => hne (by rw [<- e]; exact hl)
   simpa [apU, w7 e] using h1
  obtain ⟨hfree, hl0n⟩ := hfree
  simp only [b1t, Bool.and_eq_true] at hchk
  obtain ⟨⟨q1, q2⟩, q3⟩ := hchk
  obtain ⟨r1, r2⟩ := a10 q1
  have hgr : ∀ l, some l ∈ acc.all -> l ∈ grN O (.row r.E false :: r.ps) (.vw l0 :: ps') := fun l hl => by
   have := (List.all_eq_true.1 q2) _ hl
   exact Q4.1 this
  have hrv : ∀ l ∈ acc.rv, l ∉ grN O (.row r.E false :: r.ps) (.vw l0 :: ps') := fun l hl => by
   have := (List.all_eq_true.1 q3) _ hl
   exact K9.1 (by simpa using this)
  obtain ⟨τ1, p1, p2, p3, p4, p5, p6⟩ := h.pubs hO acc.pub
  have hvs1 := RVs.step p2 _ _ hvs
  have hpubO : ∀ {l : Nat}, (∀ E (xs : List (I E)), O l ≠ some (some (.row E xs false))) -> (j8 s O acc.pub).O l = s.O l := fun {l} hn => by
   show apU s.O (Z0 O acc.pub) l = s.O l
   apply a0B
   intro hm
   have hp : ∀ {ls : List Nat}, l ∈ V0 (Z0 O ls) -> ∃ E, ∃ xs : List (I E), O l = some (some (.row E xs false)) := by
    intro ls
    induction ls with
    | nil => intro h; simp [Z0, V0] at h
    | cons a r ih =>
      intro h
      simp only [Z0] at h
      split at h
      ·rename_i E xs e
       simp only [V0, List.map_cons, List.mem_cons] at h
       rcases h with rfl | h
       ·exact ⟨E, xs, e⟩
       ·exact ih h
      ·exact ih h
   obtain ⟨E, xs, e⟩ := hp hm
   exact hn E xs e
  have hOv : ∀ l T ls w, O l = some (some (.var T ls w)) -> (j8 s O acc.pub).O l = some (some (.var T ls w)) := fun l T ls w ho => by
   rw [hpubO (fun E xs e => by rw [ho] at e; cases e)]; exact hO l _ ho
  have hOc : ∀ l o, roO [] (v8 (grN O (.row r.E false :: r.ps) (.vw l0 :: ps')) O) l = some (some o) -> roO [] (v8 (grN O (.row r.E false :: r.ps) (.vw l0 :: ps')) (j8 s O acc.pub).O) l = some (some o) := by
   intro l o hl
   unfold roO v8 at hl ⊢
   cases hm : Y3 l (grN O (.row r.E false :: r.ps) (.vw l0 :: ps')) with
   | true =>
     rw [hm] at hl
     cases hol : O l with
     | none => rw [hol] at hl; simp [Y3] at hl
     | some x => rw [hol] at hl; simp [Y3] at hl
   | false =>
     rw [hm] at hl
     simp only [cond_false, Y3] at hl ⊢
     have hne : ∀ E (xs : List (I E)), O l ≠ some (some (.row E xs false)) := fun E xs e => by rw [e] at hl; simp at hl
     rw [hpubO hne]
     cases hol : O l with
     | none => rw [hol] at hl; simp at hl
     | some x =>
       cases x with
       | none => rw [hol] at hl; simp at hl
       | some o' => rw [hO l o' hol]; rw [hol] at hl; exact hl
  have hlv : ∀ l, some l ∈ acc.all -> (∃ E, ∃ xs : List (I E), ∃ fl, O l = some (some (.row E xs fl))) \/ (∃ T ls, O l = some (some (.var T ls true))) -> k9 (j8 s O acc.pub) l := fun l hl hx => by
   rcases hx with ⟨E, xs, fl, ho⟩ | ⟨T, ls, ho⟩
   ·exact ⟨_, (p6 l (r2 l hl)).trans (hO l _ ho)⟩
   ·exact ⟨_, hOv l _ _ _ ho⟩
  have core : ∀ M : Nat -> Prop, (∀ b, M b -> τ1.N <= b \/ ∃ l ∈ grN O (.row r.E false :: r.ps) (.vw l0 :: ps'), k9 (j8 s O acc.pub) l /\ ∃ p, c l = some p /\ p.w = some b) -> _ := fun M hM =>
   a11 ht hd hX p3 (fun l E xs fl e => a7o ⟨fl, e⟩ ⟨fl, hO l _ e⟩) (fun l E xs e => (hpubO (fun E' xs' e' => by rw [e] at e'; cases e')).trans (hO l _ e)) hOv p4 p5 hOc hM (nb := nb) ha hvs1 (fun _ h => h) r2 hrv
  have fin : ∀ (pls : List Pl), a2i P (fun b => τ1.N <= b \/ b ∈ ows pls) τ1 (.row r.E false :: r.ps) a vs pls -> At c acc.all pls -> a14 c O acc.gv (X1 (.row r.E false :: r.ps) vs) -> (∀ l, some l ∈ acc.all -> (∃ E, ∃ xs : List (I E), ∃ fl, O l = some (some (.row E xs fl))) \/ ∃ T v, (l, T, v) ∈ acc.gv) ->
   (∀ x ∈ acc.gv, some x.1 ∈ acc.all) -> acc.gv.map (fun x => x.2) = a2n (.row r.E false :: r.ps) -> a1X P r.f vs σ (Stp X.M σ) fun v τ => ∃ c', Cx.le c c' /\ Rel X c' τ (apE s nb ⟨a4N ((pvT tb nb (r.rs ++ k8 r.ps) res).take r.rs.length), Z0 O acc.pub ++ a0m acc.all ++ a19 acc.gv ((pvT tb nb (r.rs ++ k8 r.ps) res).drop r.rs.length) ++ [(l0, some (.row r.E ys false))], obT (r.rs ++ k8 r.ps) res⟩) n F /\
     RV X c' τ (a4N ((pvT tb nb (r.rs ++ k8 r.ps) res).take r.rs.length)) v := by
   intro pls k1 k2 k3 k4 k5 k6
   have hgv : ∀ x ∈ acc.gv, ∃ ls, O x.1 = some (some (.var x.2.1 ls true)) := by
    have : ∀ {gv : List (Nat × TypeId × V)} {bs : List Nat}, a14 c O gv bs -> ∀ x ∈ gv, ∃ ls, O x.1 = some (some (.var x.2.1 ls true)) := by
     intro gv
     induction gv with
     | nil => intro bs _ x hx; cases hx
     | cons y r ih =>
       intro bs ⟨b, bs', ls, _, e2, _, e4⟩ x hx
       rcases List.mem_cons.1 hx with rfl | hx
       ·exact ⟨ls, e2⟩
       ·exact ih e4 x hx
    exact this k3
   have hlive : ∀ l, some l ∈ acc.all -> k9 (j8 s O acc.pub) l := fun l hl => hlv l hl ((k4 l hl).imp id fun ⟨T, v, hm⟩ => by
    obtain ⟨ls, e⟩ := hgv _ hm
    exact ⟨T, ls, e⟩)
   have hnd : (ows pls).Nodup := At.nodup p3 k2 r1 hlive
   have hown : ∀ g ∈ ows pls, ∃ l p, some l ∈ acc.all /\ c l = some p /\ p.w = some g := k2.mem
   have hownM : ∀ g ∈ ows pls, X.M g := fun g hg => by
    obtain ⟨l, p, a1, a2, a3⟩ := hown g hg
    exact p3.mine l p g (hlive l a1) a2 a3
   refine a1X.mono (hr τ1 a.1 a.2 vs pls res ys k1 hnd hres) p1.symm fun v τ hst ⟨ws, us, pls', hpost, A0, kk0, ow0, z1, z2, z3, z4⟩ => ⟨τ, rfl, p2.trans (hst.mono fun b _ hb => hownM b hb), ?_⟩
   let kl := acc.all.filterMap id
   have hkl : ∀ l, l ∈ kl ↔ some l ∈ acc.all := fun l => by simp [kl, List.mem_filterMap]
   let s2 : St I := ⟨s.n, s.F, v8 kl (j8 s O acc.pub).O, s.nx⟩
   have h2 : Rel X c τ1 s2 n F := p3.less (fun l o ho => (v7 ho).2) (fun l ho => a0d.1 ho)
   have hn2 : ∀ l p g, k9 s2 l -> c l = some p -> p.w = some g -> ¬ g ∈ ows pls := fun l p g ⟨o, ho⟩ hc hw hg => by
    obtain ⟨m1, m2⟩ := v7 ho
    obtain ⟨l', p', a1, a2, a3⟩ := hown g hg
    exact m1 ((hkl l).2 (by rw [p3.inj l l' p p' g ⟨o, m2⟩ (hlive l' a1) hc a2 hw a3]; exact a1))
   have hi2 : ∀ g, g ∈ ows pls -> notIn c τ1 s2 g := fun g hg => by
    obtain ⟨l', p', a1, a2, a3⟩ := hown g hg
    exact (p3.owned (hlive l' a1) a2 a3).sub fun l E E' u xs q e => (v7 e).2
   have h3 : Rel X c τ s2 n F := h2.stepG hst hownM hn2 hi2
   have hOpub : apU s.O (Z0 O acc.pub ++ a0m acc.all) = v8 kl (j8 s O acc.pub).O := by
    rw [a0W]
    funext l
    exact a7x fun l hl => by obtain ⟨o, ho⟩ := hlive l hl; intro e; have := ho; rw [show (j8 s O acc.pub).O l = apU s.O (Z0 O acc.pub) l from rfl, e] at this; cases this
   have hgvO : ∀ x ∈ acc.gv, ∃ ls, (j8 s O acc.pub).O x.1 = some (some (.var x.2.1 ls true)) := fun x hx => by
    obtain ⟨ls, e⟩ := hgv x hx
    exact ⟨ls, hOv _ _ _ _ e⟩
   have hfree2 : ∀ l ∈ rng nb (obT (r.rs ++ k8 r.ps) res).length, v8 kl (j8 s O acc.pub).O l = none /\ l ∉ acc.gv.map (·.1) := by
    rw [X8] at hfree
    intro l hl
    have h0 := hfree l hl
    rw [a0W, hOpub] at h0
    by_cases hk : l ∈ V0 (a19 acc.gv ((pvT tb nb (r.rs ++ k8 r.ps) res).drop r.rs.length))
    ·exact absurd h0 (a6N (O' := s.O) hk).2
    ·rw [a0B hk] at h0
     refine ⟨h0, fun hm => ?_⟩
     simp only [List.mem_map] at hm
     obtain ⟨x, hx, e⟩ := hm
     have := (hkl x.1).2 (k5 x hx)
     rw [e] at this
     have hl2 := hlive l ((hkl l).1 this)
     obtain ⟨o, ho⟩ := hl2
     have := a0d.1 h0
     rw [ho] at this; cases this
   have htt : TT τ (r.rs ++ k8 r.ps) res (ws ++ us) pls' := hpost.tt
   have hob := a3j htt
   obtain ⟨h4, h5⟩ := Rel.addN (nb := nb) h3 (X8.2 fun l hl => (hfree2 l hl).1) hob hpost.nodup fun g hg => by
    have ho := hpost.own g hg
    refine ⟨ho.1.elim (fun h => .inl (Nat.le_trans p3.base h)) (hownM g), (ho.1.elim (fun h => h2.fresh h) (hi2 g)).step h2 hst hn2 hi2, fun l p ⟨o, ho'⟩ hc hw => ?_⟩
    obtain ⟨m1, m2⟩ := v7 ho'
    rcases ho.1 with hge | hin
    ·have := (p3.objs l o m2).lt hc hw
     have : τ1.w.heap.size <= g := hge
     omega
    ·obtain ⟨l', p', a1, a2, a3⟩ := hown g hin
     exact m1 ((hkl l).2 (by rw [p3.inj l l' p p' g ⟨o, m2⟩ (hlive l' a1) hc a2 hw a3]; exact a1))
   obtain ⟨hps, hlen⟩ := a6H (X := X) (c := Y8 c nb pls') (nb := nb) ht hpost.tt a0h
   have htk := RVs.take r.rs.length _ _ hps
   have hdr := RVs.drop r.rs.length _ _ hps
   rw [List.take_left' hpost.len] at htk
   rw [List.drop_left' hpost.len] at hdr
   have hold : ∀ l, (j8 s O acc.pub).O l ≠ none -> Y8 c nb pls' l = c l := fun l hl => by
    have key : ∀ {ps : List Pl} {c : Cx} {nb : Nat}, (l < nb \/ nb + ps.length <= l) -> Y8 c nb ps l = c l := by
     intro ps
     induction ps with
     | nil => intro c nb _; rfl
     | cons p ps ih =>
       intro c nb h
       simp only [Y8]
       rw [ih (by simp only [List.length_cons] at h; omega)]
       have : l ≠ nb := by simp only [List.length_cons] at h; omega
       simp [J5, this]
    apply key
    apply Classical.byContradiction
    intro hn
    rw [not_or] at hn
    exact hl (a0d.1 (hfree2 l (a0C.2 ⟨by omega, by rw [hob.1]; omega⟩)).1)
   have hvarb : ∀ {gv : List (Nat × TypeId × V)} {bs : List Nat}, a14 c O gv bs -> ∀ x ∈ gv, ∀ p g, c x.1 = some p -> p.w = some g -> g ∈ bs := by
    intro gv
    induction gv with
    | nil => intro bs _ x hx; cases hx
    | cons y r ih =>
      intro bs ⟨b, bs', ls, e1, e2, e3, e4⟩ x hx p g hc hw
      subst e1
      rcases List.mem_cons.1 hx with rfl | hx
      ·rw [e3] at hc; cases hc; cases hw; simp
      ·simp [ih e4 x hx p g hc hw]
   have k6' : acc.gv.map (fun x => x.2) = a2n r.ps := k6
   have hat : ∀ (i : Nat) (y : Nat × V) (p : PV I), (acc.gv.map fun x => (x.1, x.2.2))[i]? = some y -> ((pvT tb nb (r.rs ++ k8 r.ps) res).drop r.rs.length)[i]? = some p -> ∃ nb' z, p = pvV tb nb' y.2 z := fun i y p hi hp => by
    refine b0I (tb := tb) (vs := r.rs ++ k8 r.ps) (nb := nb) (x := res) (i := r.rs.length + i) (v := y.2) ?_ (by rw [List.getElem?_drop] at hp; exact hp)
    rw [List.getElem?_append_right (by simp), Nat.add_sub_cancel_left, <- a1u, <- k6']
    rw [List.getElem?_map] at hi
    simp only [List.map_map, List.getElem?_map]
    cases hgi : acc.gv[i]? with
    | none => rw [hgi] at hi; cases hi
    | some z => rw [hgi] at hi; cases hi; rfl
   have h6 := Rel.asgW (pls := pls') ht p3 h5 (a24 hpost.out k3 k6 hgvO) hdr (fun i y p hi hp hag => by
    obtain ⟨nb', z, e⟩ := hat i y p hi hp
    rw [e]; exact a8G hag)
    (fun i y p hi hp hag => by
      obtain ⟨nb', z, e⟩ := hat i y p hi hp
      rw [e]; exact a8I hag)
    (fun l hl => hold l (by
      simp only [List.mem_map] at hl
      obtain ⟨x, hx, rfl⟩ := hl
      obtain ⟨ls, e⟩ := hgvO x hx
      rw [e]; simp))
    (fun l hl p g hc hw => by
      simp only [List.mem_map] at hl
      obtain ⟨x, hx, rfl⟩ := hl
      exact p3.mine x.1 p g (hlive _ (k5 x hx)) hc hw)
    (fun l ⟨o, ho⟩ => by
      by_cases hm : l ∈ rng nb (obT (r.rs ++ k8 r.ps) res).length
      ·right
       obtain ⟨a1, a2⟩ := a0C.1 hm
       have hlt : l - nb < pls'.length := by rw [<- hob.1]; omega
       refine ⟨pls'[l - nb], List.getElem_mem _, ?_⟩
       have := a0h (c := c) (nb := nb) (l - nb) pls'[l - nb] (List.getElem?_eq_getElem hlt)
       rw [show nb + (l - nb) = l from by omega] at this
       exact this
      ·left
       have ho' : K5 (v8 kl (j8 s O acc.pub).O) nb (obT (r.rs ++ k8 r.ps) res) l = some (some o) := ho
       rw [K8 hm] at ho'
       obtain ⟨_, m2⟩ := v7 ho'
       exact ⟨⟨o, m2⟩, hold l (by rw [m2]; simp)⟩)
    (fun l hl p hc g hw hm => by
      simp only [List.mem_map] at hl
      obtain ⟨x, hx, rfl⟩ := hl
      exact (hpost.own g hm).2 (hvarb k3 x hx p g hc hw))
    (fun l hl p hc g hw => by
      simp only [List.mem_map] at hl
      obtain ⟨x, hx, rfl⟩ := hl
      obtain ⟨ls, e⟩ := hgvO x hx
      exact (((p3.owned ⟨_, e⟩ hc hw).sub (s' := s2) fun l E E' u xs q e => (v7 e).2).step h2 hst hn2 hi2).grow h3 h4 (a2b hob.not))
   refine ⟨_, h4, ?_, by rw [hpost.ret]; exact b1G htk⟩
   have hO2 : K5 (apU s.O (Z0 O acc.pub ++ a0m acc.all ++ a19 acc.gv ((pvT tb nb (r.rs ++ k8 r.ps) res).drop r.rs.length))) nb (obT (r.rs ++ k8 r.ps) res) =
    asgW (j8 s O acc.pub).O (acc.gv.map fun x => (x.1, x.2.2)) (acc.gv.map (·.1)) ((pvT tb nb (r.rs ++ k8 r.ps) res).drop r.rs.length) (K5 (v8 kl (j8 s O acc.pub).O) nb (obT (r.rs ++ k8 r.ps) res)) := by
    rw [a0W, hOpub]
    exact a9W fun x hx => ⟨hgvO x hx, fun hm => (hfree2 x.1 hm).2 (List.mem_map.2 ⟨x, hx, rfl⟩)⟩
   have e : apE s nb ⟨a4N ((pvT tb nb (r.rs ++ k8 r.ps) res).take r.rs.length), Z0 O acc.pub ++ a0m acc.all ++ a19 acc.gv ((pvT tb nb (r.rs ++ k8 r.ps) res).drop r.rs.length) ++ [(l0, some (.row r.E ys false))], obT (r.rs ++ k8 r.ps) res⟩ =
    w3 ⟨s.n, s.F, asgW (j8 s O acc.pub).O (acc.gv.map fun x => (x.1, x.2.2)) (acc.gv.map (·.1)) ((pvT tb nb (r.rs ++ k8 r.ps) res).drop r.rs.length) (K5 (v8 kl (j8 s O acc.pub).O) nb (obT (r.rs ++ k8 r.ps) res)), s.nx⟩ l0 (some (.row r.E ys false)) := by
    have e1 : apU s.O (Z0 O acc.pub ++ a0m acc.all ++ a19 acc.gv ((pvT tb nb (r.rs ++ k8 r.ps) res).drop r.rs.length) ++ [(l0, some (.row r.E ys false))]) = upF (apU s.O (Z0 O acc.pub ++ a0m acc.all ++ a19 acc.gv ((pvT tb nb (r.rs ++ k8 r.ps) res).drop r.rs.length))) l0 (some (.row r.E ys false)) := by rw [a0W]; rfl
    simp only [apE, e1, b2F hl0n, hO2, w3]
   rw [e]
   obtain ⟨b4F, hall⟩ := hrow0
   have hm0 : some l0 ∈ acc.all := by rw [hall]; simp
   obtain ⟨pl0, pls0, e0, hc0, _⟩ := (by rw [hall] at k2; exact k2 : At c (some l0 :: b4F) pls)
   have hc0 : c l0 = some pl0 := hc0
   rw [e0] at z1
   cases z1
   have hl0v : l0 ∉ acc.gv.map (·.1) := fun hm => by
    simp only [List.mem_map] at hm
    obtain ⟨x, hx, e⟩ := hm
    obtain ⟨ls, e2⟩ := hgv x hx
    obtain ⟨E, xs, fl, e3⟩ := hO0
    rw [<- e, e2] at e3; cases e3
   obtain ⟨o0, hlive0⟩ := hlive l0 hm0
   have hdead : asgW (j8 s O acc.pub).O (acc.gv.map fun x => (x.1, x.2.2)) (acc.gv.map (·.1)) ((pvT tb nb (r.rs ++ k8 r.ps) res).drop r.rs.length) (K5 (v8 kl (j8 s O acc.pub).O) nb (obT (r.rs ++ k8 r.ps) res)) l0 = some none := by
    rw [a5E hl0v, K8 hl0n]
    unfold v8
    rw [Q4.2 ((hkl l0).2 hm0), hlive0]
    rfl
   have hc0' := (hold l0 (by rw [hlive0]; simp)).trans hc0
   refine h6.revive ⟨A0, kk0, ow0, by rw [z2]; exact hc0', z3⟩ fun p2 g hp2 hg => ?_
   rw [hc0'] at hp2
   cases hp2
   refine ⟨hownM g (by rw [e0]; simp only at hg; subst hg; simp [ows]), ?_, fun l' p' _ ⟨o', ho'⟩ hc' hw' => ?_⟩
   ·have hn := (((hi2 g (by rw [e0]; simp only at hg; subst hg; simp [ows])).step h2 hst hn2 hi2).grow h3 h4 (a2b hob.not) : notIn (Y8 c nb pls') τ (addN s2 nb (obT (r.rs ++ k8 r.ps) res)) g)
    exact hn.sub fun l E E' u xs q e => a7w (by simpa using e)
   have ho' : asgW (j8 s O acc.pub).O (acc.gv.map fun x => (x.1, x.2.2)) (acc.gv.map (·.1)) ((pvT tb nb (r.rs ++ k8 r.ps) res).drop r.rs.length) (K5 (v8 kl (j8 s O acc.pub).O) nb (obT (r.rs ++ k8 r.ps) res)) l' = some (some o') := ho'
   by_cases hm : l' ∈ rng nb (obT (r.rs ++ k8 r.ps) res).length
   ·obtain ⟨a1, a2⟩ := a0C.1 hm
    have hlt : l' - nb < pls'.length := by rw [<- hob.1]; omega
    have hn := a0h (c := c) (nb := nb) (l' - nb) pls'[l' - nb] (List.getElem?_eq_getElem hlt)
    rw [show nb + (l' - nb) = l' from by omega, hc'] at hn
    cases hn
    exact z4 g hg (a8K.2 ⟨_, List.getElem_mem _, hw'⟩)
   ·have hlv' : k9 (j8 s O acc.pub) l' := by
     by_cases hv : l' ∈ acc.gv.map (·.1)
     ·simp only [List.mem_map] at hv
      obtain ⟨x, hx, e⟩ := hv
      rw [<- e]
      exact hlive _ (k5 x hx)
     ·rw [a5E hv, K8 hm] at ho'
      exact ⟨_, (v7 ho').2⟩
    have hcc : c l' = some p' := by
     obtain ⟨o2, ho2⟩ := hlv'
     rw [<- hold l' (by rw [ho2]; simp)]; exact hc'
    have el := p3.inj l' l0 p' _ g hlv' ⟨_, hlive0⟩ hcc hc0 hw' hg
    rw [el, hdead] at ho'
    cases ho'
  obtain ⟨pls0, k1, k2, k3, k4, k5, k6⟩ := core (fun _ => False) (fun _ h => h.elim)
  obtain ⟨pls, k1', k2', _⟩ := core (fun b => τ1.N <= b \/ b ∈ ows pls0) (fun b hb => hb.imp id fun hb => by
   obtain ⟨l, p, a1, a2, a3⟩ := k2.mem b hb
   refine ⟨l, hgr l a1, hlv l a1 ((k4 l a1).imp id fun ⟨T, v, hm⟩ => ?_), p, a2, a3⟩
   have : ∀ {gv : List (Nat × TypeId × V)} {bs : List Nat}, a14 c O gv bs -> ∀ x ∈ gv, ∃ ls, O x.1 = some (some (.var x.2.1 ls true)) := by
    intro gv
    induction gv with
    | nil => intro bs _ x hx; cases hx
    | cons y r ih =>
      intro bs ⟨b, bs', ls, _, e2, _, e4⟩ x hx
      rcases List.mem_cons.1 hx with rfl | hx
      ·exact ⟨ls, e2⟩
      ·exact ih e4 x hx
   obtain ⟨ls, e⟩ := this k3 _ hm
   exact ⟨T, ls, e⟩)
  have hsame : ows pls = ows pls0 := by
   have : ∀ {rows : List (Option Nat)} {p q : List Pl}, At c rows p -> At c rows q -> ows p = ows q := by
    intro rows
    induction rows with
    | nil => intro p q h1 h2; cases h1; cases h2; rfl
    | cons x r ih =>
      intro p q ⟨a, b9X, e1, g1, h1⟩ ⟨b, bs, e2, g2, h2⟩
      subst e1
      subst e2
      have hr := ih h1 h2
      simp only [ows, List.filterMap_cons] at hr ⊢
      have : a.w = b.w := by
       cases x with
       | none => simp only at g1 g2; rw [g1, g2]
       | some l => simp only at g1 g2; rw [g1] at g2; cases g2; rfl
      rw [this, hr]
   exact this k2' k2
  rw [<- hsame] at k1'
  exact fin pls k1' k2' k3 k4 k5 k6
end
end Go.Qx
end
section
namespace Go.Qx
open Go Go.RowKit Go.Sx
@[reducible] def b7Z : Rp Unit where
 sz := 1
 pos := by decide
 agg := false
 cells := fun _ _ _ => False
 len := fun h => h.elim
 one := fun h => h.elim
 mono := fun _ h => h
@[reducible] def rpK (k : IntKind) : Rp Int := rpIK k
@[reducible] def Y7 {α β : Type} (a : Rp α) (b : Rp β) : Rp (α × β) where
 sz := a.sz + b.sz
 pos := Nat.lt_of_lt_of_le a.pos (Nat.le_add_right _ _)
 agg := true
 cells := fun σ x cs => ∃ c1 c2, cs = c1 ++ c2 /\ a.cells σ x.1 c1 /\ b.cells σ x.2 c2
 len := fun ⟨_, _, e, h1, h2⟩ => by rw [e, List.length_append, a.len h1, b.len h2]
 one := fun ⟨_, _, e, h1, h2⟩ v hv => by
  rw [e, List.mem_append] at hv
  exact hv.elim (a.one h1 v) (b.one h2 v)
 mono := fun k ⟨c1, c2, e, h1, h2⟩ => ⟨c1, c2, e, a.mono k h1, b.mono k h2⟩
@[reducible] def a67 {γ α : Type} (to : γ -> α) (a : Rp α) : Rp γ where
 sz := a.sz
 pos := a.pos
 agg := true
 cells := fun σ x cs => a.cells σ (to x) cs
 len := fun h => a.len h
 one := fun h => a.one h
 mono := fun k h => a.mono k h
structure TE where
 E : TypeId
 α : Type
 rp : Rp α
def b4Q : List TE -> TypeId -> TE
 | [], _ => ⟨0, Unit, b7Z⟩
 | e :: r, E => bif Nat.beq e.E E then e else b4Q r E
section
variable {I : TypeId -> Type} [∀ E, Rp (I E)]
structure Fd (I : TypeId -> Type) [∀ E, Rp (I E)] (α : Type) (rp : Rp α) where
 lf : α -> List (PV I)
 pa : (ρ : Type) -> List (PV I) -> (α -> List (PV I) -> Option ρ) -> Option ρ
 lf_ok : ∀ (X : Cxt) (c : Cx) (σ : S) (x : α) (cs : List Value), rp.cells σ x cs -> RG X c σ (lf x) cs
 pa_ok : ∀ (ρ : Type) (ls : List (PV I)) (f : α -> List (PV I) -> Option ρ) (r : ρ), pa ρ ls f = some r -> ∃ x rest, f x rest = some r /\
  ∀ (X : Cxt) (c : Cx) (σ : S) (cs : List Value), RG X c σ ls cs -> ∃ c1 c2, cs = c1 ++ c2 /\ rp.cells σ x c1 /\ RG X c σ rest c2
theorem RG.cons1 {X : Cxt} {c : Cx} {σ : S} {p : PV I} {r : List (PV I)} {cs : List Value} (h : RG X c σ (p :: r) cs) (hp : a2l p = false) : ∃ v c2, cs = [v] ++ c2 /\ RV X c σ p v /\ RG X c σ r c2 := by
 simp only [RG] at h
 obtain ⟨a, c2, e, h1 | ⟨_, v, e1, h1⟩, h2⟩ := h
 ·exact (by cases p <;> first | exact h1.elim | cases hp)
 ·exact ⟨v, c2, by rw [e, e1], h1, h2⟩
theorem RG.cns {X : Cxt} {c : Cx} {σ : S} {p : PV I} {ps : List (PV I)} {v : Value} {cs : List Value} (h0 : a2l p = false) (h : RV X c σ p v) (k : RG X c σ ps cs) : RG X c σ (p :: ps) (v :: cs) := by
 simp only [RG]
 exact ⟨[v], cs, rfl, .inr ⟨h0, v, rfl, h⟩, k⟩
theorem RG.nl {X : Cxt} {c : Cx} {σ : S} : RG X c σ ([] : List (PV I)) [] := by simp only [RG]
theorem a0x {X : Cxt} {c : Cx} {σ : S} {k : IntKind} {n : Int} : RV X c σ (.int k n : PV I) (.int k n) := by simp only [RV]
theorem a3B {X : Cxt} {c : Cx} {σ : S} {b : Bool} : RV X c σ (.bool b : PV I) (.bool b) := by simp only [RV]
theorem a8D {X : Cxt} {c : Cx} {σ : S} {b : ByteArray} : RV X c σ (.str b : PV I) (.string b) := by simp only [RV]
theorem a0J {X : Cxt} {c : Cx} {σ : S} {E : TypeId} : RV X c σ (.nl E : PV I) (.slice none 0 0) := by simp only [RV]; exact ⟨none, rfl⟩
theorem b9f {X : Cxt} {c : Cx} {σ : S} {v : Value} : RV X c σ (.any : PV I) v := by simp only [RV]
def a1U (k : IntKind) : Fd I Int (rpK k) where
 lf := fun n => [.int k n]
 pa := fun _ ls f => match ls with
  | .int k' n :: r => if k' = k then f n r else none
  | _ => none
 lf_ok := fun X c σ x cs h => by
  have e : cs = [.int k x] := h
  rw [e]
  exact RG.single rfl (by simp only [RV])
 pa_ok := fun ρ ls f r h => by
  split at h
  ·rename_i k' n rest
   obtain ⟨e, h2⟩ := K2 h
   clear h
   subst e
   refine ⟨n, rest, h2, fun X c σ cs hl => ?_⟩
   obtain ⟨v, c2, e, h1, h2⟩ := hl.cons1 rfl
   simp only [RV] at h1
   subst h1
   exact ⟨_, c2, e, rfl, h2⟩
  ·cases h
def a3o : Fd I Bool rpBool where
 lf := fun n => [.bool n]
 pa := fun _ ls f => match ls with
  | .bool n :: r => f n r
  | _ => none
 lf_ok := fun X c σ x cs h => by
  have e : cs = [.bool x] := h
  rw [e]
  exact RG.single rfl (by simp only [RV])
 pa_ok := fun ρ ls f r h => by
  split at h
  ·rename_i n rest
   refine ⟨n, rest, h, fun X c σ cs hl => ?_⟩
   obtain ⟨v, c2, e, h1, h2⟩ := hl.cons1 rfl
   simp only [RV] at h1
   subst h1
   exact ⟨_, c2, e, rfl, h2⟩
  ·cases h
def b2q : Fd I ByteArray rpStr where
 lf := fun n => [.str n]
 pa := fun _ ls f => match ls with
  | .str n :: r => f n r
  | _ => none
 lf_ok := fun X c σ x cs h => by
  have e : cs = [.string x] := h
  rw [e]
  exact RG.single rfl (by simp only [RV])
 pa_ok := fun ρ ls f r h => by
  split at h
  ·rename_i n rest
   refine ⟨n, rest, h, fun X c σ cs hl => ?_⟩
   obtain ⟨v, c2, e, h1, h2⟩ := hl.cons1 rfl
   simp only [RV] at h1
   subst h1
   exact ⟨_, c2, e, rfl, h2⟩
  ·cases h
def a1m (E : TypeId) : Fd I (List (I E)) rpList where
 lf := fun xs => [.sl E xs false]
 pa := fun _ ls f => match ls with
  | .sl E' xs _ :: r => Option.bind (a01 E E' xs) fun ys => f ys r
  | .nl E' :: r => bif Nat.beq E' E then f [] r else none
  | _ => none
 lf_ok := fun X c σ xs cs h => by
  obtain ⟨A, k, e, hs⟩ : ∃ A k, cs = [.slice A (xs : List (I E)).length k] /\ Sl σ xs A k := h
  rw [e]
  refine RG.single rfl ?_
  simp only [RV]
  exact ⟨A, k, rfl, hs, fun e => by cases e⟩
 pa_ok := fun ρ ls f r h => by
  split at h
  ·rename_i E' xs fl rest
   obtain ⟨ys, hy, h⟩ := bind_some h
   obtain ⟨e, rfl⟩ := W1 hy
   subst e
   refine ⟨xs, rest, h, fun X c σ cs hl => ?_⟩
   obtain ⟨v, c2, e, h1, h2⟩ := hl.cons1 rfl
   simp only [RV] at h1
   obtain ⟨A, k, e1, hs, _⟩ := h1
   exact ⟨[v], c2, e, ⟨A, k, by rw [e1], hs⟩, h2⟩
  ·rename_i E' rest
   obtain ⟨_, h⟩ := y4 h
   refine ⟨[], rest, h, fun X c σ cs hl => ?_⟩
   obtain ⟨v, c2, e, h1, h2⟩ := hl.cons1 rfl
   simp only [RV] at h1
   obtain ⟨A, e1⟩ := h1
   exact ⟨[v], c2, e, ⟨A, 0, by rw [e1]; rfl, Sl.nil_ _ _ _ (Nat.zero_le _)⟩, h2⟩
  ·cases h
def b4N (E : TypeId) (fd : Fd I (I E) inferInstance) : Fd I (I E) inferInstance where
 lf := fun x => [.dat E x]
 pa := fun ρ ls f => match ls with
  | .dat E' x :: r => Option.bind (a4j E E' x) fun y => f y r
  | ls => fd.pa ρ ls f
 lf_ok := fun X c σ x cs h => RG.one h
 pa_ok := fun ρ ls f r h => by
  split at h
  ·rename_i E' x rest
   obtain ⟨y, hy, h⟩ := bind_some h
   obtain ⟨e, rfl⟩ := a7a hy
   subst e
   refine ⟨x, rest, h, fun X c σ cs hl => ?_⟩
   simp only [RG] at hl
   obtain ⟨a, c2, e, h1 | ⟨h1, _⟩, h2⟩ := hl
   ·exact ⟨a, c2, e, h1, h2⟩
   ·cases h1
  ·exact fd.pa_ok ρ _ f r h
def J1 {α β : Type} {ra : Rp α} {rb : Rp β} (a : Fd I α ra) (b : Fd I β rb) : Fd I (α × β) (Y7 ra rb) where
 lf := fun x => a.lf x.1 ++ b.lf x.2
 pa := fun ρ ls f => a.pa ρ ls fun x r => b.pa ρ r fun y r => f (x, y) r
 lf_ok := fun X c σ x cs ⟨c1, c2, e, h1, h2⟩ => by
  rw [e]
  exact RG.app _ _ _ _ (a.lf_ok X c σ _ _ h1) (b.lf_ok X c σ _ _ h2)
 pa_ok := fun ρ ls f r h => by
  obtain ⟨x, r1, h, k1⟩ := a.pa_ok ρ _ _ r h
  obtain ⟨y, r2, h, k2⟩ := b.pa_ok ρ _ _ r h
  refine ⟨(x, y), r2, h, fun X c σ cs hl => ?_⟩
  obtain ⟨c1, c2, e, h1, h2⟩ := k1 X c σ cs hl
  obtain ⟨c3, c4, e2, h3, h4⟩ := k2 X c σ c2 h2
  exact ⟨c1 ++ c3, c4, by rw [e, e2, List.append_assoc], ⟨c1, c3, rfl, h1, h3⟩, h4⟩
def a4l {γ α : Type} {rg : Rp γ} {ra : Rp α} (a : Fd I α ra) (to : γ -> α) (of : α -> γ) (h : ∀ x, to (of x) = x) (hc : ∀ σ x cs, rg.cells σ x cs ↔ ra.cells σ (to x) cs) : Fd I γ rg where
 lf := fun x => a.lf (to x)
 pa := fun ρ ls f => a.pa ρ ls fun x r => f (of x) r
 lf_ok := fun X c σ x cs hx => a.lf_ok X c σ _ _ ((hc σ x cs).1 hx)
 pa_ok := fun ρ ls f r hr => by
  obtain ⟨x, r1, hr, k1⟩ := a.pa_ok ρ _ _ r hr
  refine ⟨of x, r1, hr, fun X c σ cs hl => ?_⟩
  obtain ⟨c1, c2, e, h1, h2⟩ := k1 X c σ cs hl
  exact ⟨c1, c2, e, (hc σ _ _).2 (by rw [h]; exact h1), h2⟩
structure FE (I : TypeId -> Type) [∀ E, Rp (I E)] where
 E : TypeId
 fd : Fd I (I E) inferInstance
def b4E : List (FE I) -> TypeId -> Option (FE I)
 | [], _ => none
 | e :: r, E => bif Nat.beq e.E E then some e else b4E r E
def lfT (l : List (FE I)) (E : TypeId) (x : I E) : List (PV I) := match b4E l E with
 | some e => if h : E = e.E then e.fd.lf (h ▸ x) else [.dat E x]
 | none => [.dat E x]
def ofT (l : List (FE I)) (E : TypeId) (ls : List (PV I)) : Option (I E) := match b4E l E with
 | some e => if h : e.E = E then e.fd.pa (I E) ls fun x r => match r with
   | [] => some (h ▸ x)
   | _ => none else none
 | none => none
def a2y {α : Type} (p : α -> Prop) : List α -> Prop
 | [] => True
 | x :: r => p x /\ a2y p r
omit [∀ E, Rp (I E)] in
theorem a2y.mem {α : Type} {p : α -> Prop} : ∀ {l : List α}, a2y p l -> ∀ x ∈ l, p x
 | [], _, _, h => by cases h
 | _ :: _, h, x, hx => by
   rcases List.mem_cons.1 hx with rfl | hx
   ·exact h.1
   ·exact a2y.mem h.2 x hx
def asc {α : Type} : List (Nat × α) -> Nat -> Option α
 | [], _ => none
 | x :: r, k => bif Nat.beq x.1 k then some x.2 else asc r k
omit [∀ E, Rp (I E)] in
theorem V6 {α : Type} : ∀ {l : List (Nat × α)} {k : Nat} {a : α}, asc l k = some a -> (k, a) ∈ l
 | [], _, _, h => by cases h
 | x :: r, k, a, h => by
   simp only [asc] at h
   cases hk : Nat.beq x.1 k with
   | true =>
     rw [hk] at h
     cases h
     have := Nat.eq_of_beq_eq_true hk
     subst this
     simp
   | false =>
     rw [hk] at h
     exact List.mem_cons_of_mem _ (V6 h)
structure TabL (I : TypeId -> Type) [∀ E, Rp (I E)] where
 sz : List (TypeId × Nat)
 one : List (TypeId × Unit)
 fld : List (TypeId × List (Nat × TypeId))
 el : List (TypeId × TypeId)
 str : List (TypeId × Unit)
 bool : List (TypeId × Unit)
 ik : List (TypeId × IntKind)
 fe : List (FE I)
 inf : List (TypeId × Nat × Nat × List (PV I))
 st : List (TypeId × List (Nat × Nat))
 eq : List (TypeId × (List (PV I) -> List (PV I) -> Option Bool))
 arr : List (TypeId × (TypeId × Nat × Nat))
 fb : List (FuncId × Unit)
 nest : List (TypeId × (TypeId × Nat)) := []
def b7n (L : TabL I) : Tab I where
 sz := asc L.sz
 one := fun T => (asc L.one T).isSome
 off := fun T f => Option.bind (asc L.fld T) fun l => Option.bind l[f]? fun x => some x.1
 fty := fun T f => Option.bind (asc L.fld T) fun l => Option.bind l[f]? fun x => some x.2
 el := asc L.el
 isStr := fun T => (asc L.str T).isSome
 isBool := fun T => (asc L.bool T).isSome
 ik := asc L.ik
 lf := lfT L.fe
 of := ofT L.fe
 size := fun T => Option.bind (asc L.inf T) fun x => some x.1
 bytes := fun T => Option.bind (asc L.inf T) fun x => some x.2.1
 zero := fun T => Option.bind (asc L.inf T) fun x => some x.2.2
 flds := asc L.st
 eqF := fun T a b => Option.bind (asc L.eq T) fun f => f a b
 arr := asc L.arr
 fb := fun f => (asc L.fb f).isSome
 nest := asc L.nest
def a5z (P : Program) (T : TypeId) : Nat -> List (Nat × TypeId) -> Prop
 | _, [] => True
 | i, x :: r => a8M P T i x.1 /\ (∃ fs fl, P.underlying T = some (.struct fs) /\ fs[i]? = some fl /\ fl.type = x.2) /\ a5z P T (i + 1) r
omit [∀ E, Rp (I E)] in
theorem a5z.at {P : Program} {T : TypeId} : ∀ {l : List (Nat × TypeId)} {i j : Nat} {x : Nat × TypeId}, a5z P T i l -> l[j]? = some x -> a8M P T (i + j) x.1 /\ (∃ fs fl, P.underlying T = some (.struct fs) /\ fs[i + j]? = some fl /\ fl.type = x.2)
 | [], _, _, _, _, h => by simp at h
 | y :: r, i, 0, x, hf, h => by simp at h; subst h; exact ⟨hf.1, hf.2.1⟩
 | y :: r, i, j + 1, x, hf, h => by
   have := a5z.at (i := i + 1) hf.2.2 (show r[j]? = some x by simpa using h)
   rwa [show i + 1 + j = i + (j + 1) by omega] at this
def b8V (P : Program) (T : TypeId) (sz by_ : Nat) (ls : List (PV I)) : Prop := ∃ z, Z8 P T z sz by_ /\ ∀ X c σ, RG X c σ ls z.cells.toList
structure TabLOk (P : Program) (L : TabL I) : Prop where
 sz : a2y (fun x => b0y P x.1 x.2) L.sz
 one : a2y (fun x => a0v P x.1) L.one
 fld : a2y (fun x => a5z P x.1 0 x.2) L.fld
 el : a2y (fun x => P.underlying x.1 = some (.slice x.2) /\ ∃ z b, Z8 P x.2 z (Rp.sz (I x.2)) b /\ z.cells.size = Rp.sz (I x.2) /\ 0 < b) L.el
 str : a2y (fun x => P.underlying x.1 = some .string) L.str
 bool : a2y (fun x => P.underlying x.1 = some .bool) L.bool
 ik : a2y (fun x => P.underlying x.1 = some (.int x.2)) L.ik
 inf : a2y (fun x => b8V P x.1 x.2.1 x.2.2.1 x.2.2.2) L.inf
 st : a2y (fun x => (∃ fs, P.underlying x.1 = some (.struct fs) /\ fs.toList.mapM (fun f => (P.info? f.type).map fun i => (f.offset, i.size)) = some x.2) \/
  ∃ m e ie, P.underlying x.1 = some (.array m e) /\ P.info? e = some ie /\ x.2 = (List.range m).map fun j => (j * ie.size, ie.size)) L.st
 eq : a2y (fun x => ∀ (X : Cxt) (c : Cx) (σ : S) (ls ms : List (PV I)) (r : Bool) (cs ds : List Value), x.2 ls ms = some r -> RG X c σ ls cs -> RG X c σ ms ds ->
  P.eqGuardType P.depth x.1 = false /\ ∃ j, Nat.ble j 10000 = true /\ Sx.EqAt P j x.1 (.agg cs.toArray) (.agg ds.toArray) r) L.eq
 arr : a2y (fun x => P.underlying x.1 = some (.array x.2.2.1 x.2.1) /\ (P.info? x.2.1).map (·.size) = some x.2.2.2) L.arr
 fb : a2y (fun x => a3V P x.1) L.fb
omit [∀ E, Rp (I E)] in
theorem b78 {P : Program} {T e : TypeId} {m k b : Nat} {z : Value} {pl : List (Nat × Nat)} (hu : P.underlying T = some (.array m e)) (hi : Z8 P e z k b) (hp : pl = (List.range m).map fun j => (j * k, k)) :
 ∃ m e ie, P.underlying T = some (.array m e) /\ P.info? e = some ie /\ pl = (List.range m).map fun j => (j * ie.size, ie.size) := by
 obtain ⟨i, h1, h2, h3, h4⟩ := hi
 exact ⟨m, e, i, hu, h1, by rw [hp, h3]⟩
omit [∀ E, Rp (I E)] in
theorem a5V {α : Type} {o : Option α} (h : o.isSome = true) : ∃ a, o = some a := Option.isSome_iff_exists.1 h
omit [∀ E, Rp (I E)] in
theorem Z8.inj {P : Program} {T : TypeId} {z z' : Value} {a a' b b' : Nat} (h : Z8 P T z a b) (k : Z8 P T z' a' b') : z = z' /\ a = a' /\ b = b' := by
 obtain ⟨i, h1, h2, h3, h4⟩ := h
 obtain ⟨j, k1, k2, k3, k4⟩ := k
 rw [h1] at k1
 cases k1
 rw [h2] at k2
 cases k2
 exact ⟨rfl, h3.symm.trans k3, h4.symm.trans k4⟩
theorem a8e {fe : List (FE I)} {X : Cxt} {c : Cx} {σ : S} {E : TypeId} {ls : List (PV I)} {x : I E} {cs : List Value} (hx : ofT fe E ls = some x) (hl : RG X c σ ls cs) : Rp.cells σ x cs := by
 unfold ofT at hx
 split at hx
 ·rename_i e he
  split at hx
  ·rename_i e1
   subst e1
   obtain ⟨y, rest, h1, h2⟩ := e.fd.pa_ok _ _ _ _ hx
   obtain ⟨c1, c2, e2, h3, h4⟩ := h2 X c σ cs hl
   split at h1
   ·cases h1
    simp only [RG] at h4
    rw [e2, h4, List.append_nil]
    exact h3
   ·cases h1
  ·cases hx
 ·cases hx
theorem b63 {P : Program} {L : TabL I} (h : TabLOk P L) : TabOk P (b7n L) where
 sz := fun T k hk => h.sz.mem _ (V6 hk)
 one := fun T hk => by obtain ⟨a, ha⟩ := a5V hk; exact h.one.mem _ (V6 ha)
 off := fun T f o hk => by
  obtain ⟨l, hl, hk⟩ := bind_some hk
  obtain ⟨x, hx, hk⟩ := bind_some hk
  cases hk
  have := (a5z.at (h.fld.mem _ (V6 hl)) hx).1
  rw [Nat.zero_add] at this
  exact this
 fty := fun T f o hk => by
  obtain ⟨l, hl, hk⟩ := bind_some hk
  obtain ⟨x, hx, hk⟩ := bind_some hk
  cases hk
  have := (a5z.at (h.fld.mem _ (V6 hl)) hx).2
  rw [Nat.zero_add] at this
  exact this
 el := fun T E hk => by
  obtain ⟨h1, z, b, ⟨i, e1, e2, e3, e4⟩, _⟩ := h.el.mem _ (V6 hk)
  exact ⟨h1, by rw [e1]; simp only [Option.map_some]; rw [e3]⟩
 isStr := fun T hk => by obtain ⟨a, ha⟩ := a5V hk; exact h.str.mem _ (V6 ha)
 isBool := fun T hk => by obtain ⟨a, ha⟩ := a5V hk; exact h.bool.mem _ (V6 ha)
 ik := fun T k hk => h.ik.mem _ (V6 hk)
 lf := fun X c σ E x cs hx => by
  show RG X c σ (lfT L.fe E x) cs
  unfold lfT
  split
  ·rename_i e he
   split
   ·rename_i e1
    subst e1
    exact e.fd.lf_ok X c σ x cs hx
   ·exact RG.one hx
  ·exact RG.one hx
 of := fun _ _ _ _ _ _ _ hx hl => a8e hx hl
 size := fun T k hk => by
  obtain ⟨x, hx, hk⟩ := bind_some hk
  cases hk
  obtain ⟨z, ⟨i, e1, e2, e3, e4⟩, _⟩ := h.inf.mem _ (V6 hx)
  rw [e1, Option.map_some, e3]
 slice := fun T E b hT hb => by
  obtain ⟨x, hx, hk⟩ := bind_some hb
  cases hk
  obtain ⟨z, h1, _⟩ := h.inf.mem _ (V6 hx)
  obtain ⟨h2, z', b', h3, h4, h5⟩ := h.el.mem _ (V6 hT)
  obtain ⟨rfl, e1, e2⟩ := Z8.inj h1 h3
  simp only at e1 e2 h1
  refine ⟨z, h2, ?_, h4, Rp.pos, ?_⟩
  ·rw [<- e1]; exact h1
  ·rw [e2]; exact h5
 zero := fun T ls hk => by
  obtain ⟨x, hx, hk⟩ := bind_some hk
  cases hk
  obtain ⟨z, h1, h2⟩ := h.inf.mem _ (V6 hx)
  exact ⟨z, _, _, _, h1, rfl, h2⟩
 flds := fun T pl ls hp hz => by
  obtain ⟨x, hx, hk⟩ := bind_some hz
  cases hk
  obtain ⟨z, ⟨i, e1, e2, e3, e4⟩, h2⟩ := h.inf.mem _ (V6 hx)
  rcases h.st.mem _ (V6 hp) with ⟨fs, h3, h4⟩ | ⟨m, e, ie, h3, h4, h5⟩
  ·exact ⟨z.cells.toList, .inl ⟨fs, i, z, h3, e1, e2, by simp, h4⟩, h2⟩
  ·exact ⟨z.cells.toList, .inr ⟨m, e, ie, i, z, h3, h4, e1, e2, by simp, h5⟩, h2⟩
 eqF := fun X c σ T ls ms r cs ds hk h1 h2 => by
  obtain ⟨f, hf, hk⟩ := bind_some hk
  exact h.eq.mem _ (V6 hf) X c σ ls ms r cs ds hk h1 h2
 arr := fun T E m k hk => h.arr.mem _ (V6 hk)
 fb := fun f hk => by obtain ⟨a, ha⟩ := a5V hk; exact h.fb.mem _ (V6 ha)
def b4L (P : Program) (k : Nat) (e : TypeId) (c : Nat) (xs ys : Array Value) (l : List Nat) (r : Bool) : Prop := ∀ d w, (Op.eqItems (d + k) e c xs ys l).run P w = .ok r w
omit [∀ E, Rp (I E)] in
theorem b6u {P : Program} {k : Nat} {e : TypeId} {c : Nat} {xs ys : Array Value} : b4L P k e c xs ys [] true := fun d w => by simp [Op.eqItems]
omit [∀ E, Rp (I E)] in
theorem b1N {P : Program} {k : Nat} {e : TypeId} {c i : Nat} {xs ys : Array Value} {is : List Nat} {a b : Value} {r1 r2 : Bool} (ha : ∀ w, (part e xs (i * c)).run P w = .ok a w) (hb : ∀ w, (part e ys (i * c)).run P w = .ok b w)
 (h1 : Sx.EqAt P k e a b r1) (h2 : b4L P k e c xs ys is r2) : b4L P k e c xs ys (i :: is) (r1 && r2) := fun d w => by
 simp only [Op.eqItems, Sem.run_bind, ha, hb, Result.andThen_ok, h1 d w]
 cases r1
 ·simp
 ·simpa using h2 d w
omit [∀ E, Rp (I E)] in
theorem b6x {P : Program} {k m b K : Nat} {T e : TypeId} {z : Value} {xs ys : Array Value} {r : Bool} (hu : P.underlying T = some (.array m e)) (hi : Z8 P e z k b) (h : b4L P K e k xs ys (List.range m) r) : Sx.EqAt P (K + 1) T (.agg xs) (.agg ys) r := fun d w => by
 obtain ⟨i, h1, h2, h3, h4⟩ := hi
 have := run_equalIn_array (P := P) (w := w) (d + K) xs ys hu h1
 rw [<- Nat.add_assoc, this]
 have hc : P.cellsOf e = k := by simp [Program.cellsOf, h1, h3]
 rw [hc]
 exact h d w
def b3A (fe : List (FE I)) (T : TypeId) (g : I T -> I T -> Bool) : List (PV I) -> List (PV I) -> Option Bool := fun ls ms =>
 match ls, ms with
 | [.dat E x], [.dat E' y] => Option.bind (a4j T E x) fun x => Option.bind (a4j T E' y) fun y => some (g x y)
 | [.dat E x], ms => Option.bind (a4j T E x) fun x => Option.bind (ofT fe T ms) fun y => some (g x y)
 | ls, [.dat E' y] => Option.bind (ofT fe T ls) fun x => Option.bind (a4j T E' y) fun y => some (g x y)
 | ls, ms => Option.bind (ofT fe T ls) fun x => Option.bind (ofT fe T ms) fun y => some (g x y)
theorem b0F {X : Cxt} {c : Cx} {σ : S} {T E : TypeId} {x : I E} {y : I T} {cs : List Value} (h : a4j T E x = some y) (hl : RG X c σ [.dat E x] cs) : Rp.cells σ y cs := by
 obtain ⟨e, rfl⟩ := a7a h
 subst e
 simp only [RG] at hl
 obtain ⟨a, r, e, h1 | ⟨h0, _⟩, h2⟩ := hl
 ·subst h2
  rw [e, List.append_nil]
  exact h1
 ·cases h0
theorem b7V {fe : List (FE I)} {T : TypeId} {g : I T -> I T -> Bool} {X : Cxt} {c : Cx} {σ : S} {ls ms : List (PV I)} {r : Bool} {cs ds : List Value} (h : b3A fe T g ls ms = some r) (hl : RG X c σ ls cs) (hm : RG X c σ ms ds) :
 ∃ x y, Rp.cells σ x cs /\ Rp.cells σ y ds /\ g x y = r := by
 unfold b3A at h
 split at h
 ·obtain ⟨x, hx, h⟩ := bind_some h
  obtain ⟨y, hy, h⟩ := bind_some h
  exact ⟨x, y, b0F hx hl, b0F hy hm, Option.some.inj h⟩
 ·obtain ⟨x, hx, h⟩ := bind_some h
  obtain ⟨y, hy, h⟩ := bind_some h
  exact ⟨x, y, b0F hx hl, a8e hy hm, Option.some.inj h⟩
 ·obtain ⟨x, hx, h⟩ := bind_some h
  obtain ⟨y, hy, h⟩ := bind_some h
  exact ⟨x, y, a8e hx hl, b0F hy hm, Option.some.inj h⟩
 ·obtain ⟨x, hx, h⟩ := bind_some h
  obtain ⟨y, hy, h⟩ := bind_some h
  exact ⟨x, y, a8e hx hl, a8e hy hm, Option.some.inj h⟩
omit [∀ E, Rp (I E)] in
theorem V9 [∀ E, Rp (I E)] {P : Program} {r : Row I} (h : r.run = a91 r.ps fun _ => none) : y0 P r := by
 intro σ a vs pls res hA hnd happ
 rw [h] at happ
 have : ∀ (ps : List Pk) (R : Type) (a : X4 I ps), a5C ps (a91 ps fun _ => (none : Option R)) a = none := by
  intro ps R a
  induction ps with
  | nil => rfl
  | cons p r ih => exact ih a.2
 rw [this] at happ
 cases happ
def j9 (f : Func) : Code := match f.body with
 | some c => c
 | none => .skip
inductive BE where
 | slot (t : Nat)
 | fld (T : TypeId) (f : Nat) (e : BE)
 | ld (T : TypeId) (e : BE)
 | len (e : BE)
 | cst (n : Int)
def bev (tb : Tab I) (s : St I) : BE -> Option (PV I)
 | .slot t => s.F t
 | .fld T f e => Option.bind (bev tb s e) fun p => Option.bind (tb.off T f) fun d => match p with
   | .ptr l o => some (.ptr l (o + d))
   | .ep E x o => some (.ep E x (o + d))
   | _ => none
 | .ld T e => Option.bind (bev tb s e) fun p => match p with
   | .ptr l o => match s.O l with
     | some (some (.var _ ls _)) => a2h tb T ls o
     | _ => none
   | .ep E x o => a2h tb T [.dat E x] o
   | _ => none
 | .len e => Option.bind (bev tb s e) fun p => match p with
   | .sl _ xs _ => some (.int .i64 (xs.length : Int))
   | .nl _ => some (.int .i64 0)
   | .str t => some (.int .i64 (t.size : Int))
   | .vw l => match s.O l with
     | some (some (.row _ xs _)) => some (.int .i64 (xs.length : Int))
     | some (some (.ro _ xs)) => some (.int .i64 (xs.length : Int))
     | some (some (.bo _ xs)) => some (.int .i64 (xs.length : Int))
     | _ => none
   | .vs l _ lo => match s.O l with
     | some (some (.row _ xs _)) => some (.int .i64 ((xs.drop lo).length : Int))
     | _ => none
   | _ => none
 | .cst n => some (.int .i64 n)
def bnd (tb : Tab I) (e : BE) (k : Nat) (s : St I) : Option Nat := match bev tb s e with
 | some (.int _ n) => some (n.toNat + k)
 | _ => none
end
end Go.Qx
end
section
namespace Go.Sx
open Go Go.RowKit
structure Key where
 Kind : Int
 Text : ByteArray
mutual
inductive Val where
 | mk (Kind : Int) (Int_ : Int) (Text : ByteArray) (Kids : List Val) (Keys : List Key) (Entries : List Ent) (Labels : List ByteArray)
inductive Ent where
 | mk (Args : List Val) (Fails : Bool) (Result : Val)
end
namespace Val
def Kind : Val -> Int | mk a _ _ _ _ _ _ => a
def Int_ : Val -> Int | mk _ a _ _ _ _ _ => a
def Text : Val -> ByteArray | mk _ _ a _ _ _ _ => a
def Kids : Val -> List Val | mk _ _ _ a _ _ _ => a
def Keys : Val -> List Key | mk _ _ _ _ a _ _ => a
def Entries : Val -> List Ent | mk _ _ _ _ _ a _ => a
def Labels : Val -> List ByteArray | mk _ _ _ _ _ _ a => a
end Val
namespace Ent
def Args : Ent -> List Val | mk a _ _ => a
def Fails : Ent -> Bool | mk _ a _ => a
def Result : Ent -> Val | mk _ _ a => a
end Ent
instance rpKey : Rp Key where
 sz := 2
 pos := by decide
 agg := true
 cells := fun _ k cs => cs = [.int .i64 k.Kind, .string k.Text]
 len := fun h => by rw [h]; rfl
 one := fun h v hv => by rw [h] at hv; simp at hv; rcases hv with rfl | rfl <;> rfl
 mono := fun _ h => h
def SlC (σ : S) (len : Nat) (A : Option Addr) (c : Nat) (cs : List Value) : Prop := len <= c /\ c <= maxLen /\ (0 < len -> ∃ b o, A = some ⟨b, o, none⟩ /\ a0r σ b o cs)
mutual
def RV (σ : S) : Val -> List Value -> Prop
 | .mk k n t kids keys ents labs, cs => ∃ A1 c1 A2 c2 A3 c3 A4 c4 f1 f3,
    cs = [.int .i64 k, .int .i64 n, .string t, .slice A1 kids.length c1, .slice A2 keys.length c2, .slice A3 ents.length c3, .slice A4 labs.length c4] /\
    SlC σ kids.length A1 c1 f1 /\ RVs σ kids f1 /\ Sl σ keys A2 c2 /\ SlC σ ents.length A3 c3 f3 /\ REs σ ents f3 /\ Sl σ labs A4 c4
def RVs (σ : S) : List Val -> List Value -> Prop
 | [], cs => cs = []
 | x :: xs, cs => ∃ c r, cs = c ++ r /\ RV σ x c /\ RVs σ xs r
def RE (σ : S) : Ent -> List Value -> Prop
 | .mk args fails res, cs => ∃ A c f r, cs = .slice A args.length c :: .bool fails :: r /\ SlC σ args.length A c f /\ RVs σ args f /\ RV σ res r
def REs (σ : S) : List Ent -> List Value -> Prop
 | [], cs => cs = []
 | x :: xs, cs => ∃ c r, cs = c ++ r /\ RE σ x c /\ REs σ xs r
end
theorem RV.len {σ : S} : ∀ {v : Val} {cs : List Value}, RV σ v cs -> cs.length = 7
 | .mk .., cs, h => by simp only [RV] at h; obtain ⟨_, _, _, _, _, _, _, _, _, _, rfl, _⟩ := h; rfl
theorem RV.one {σ : S} : ∀ {v : Val} {cs : List Value}, RV σ v cs -> ∀ u ∈ cs, u.oneCell' = true
 | .mk .., cs, h => by
   simp only [RV] at h
   obtain ⟨_, _, _, _, _, _, _, _, _, _, rfl, _⟩ := h
   intro u hu
   simp at hu
   rcases hu with rfl | rfl | rfl | rfl | rfl | rfl | rfl <;> rfl
theorem RE.len {σ : S} : ∀ {v : Ent} {cs : List Value}, RE σ v cs -> cs.length = 9
 | .mk .., cs, h => by simp only [RE] at h; obtain ⟨_, _, _, r, rfl, _, _, h4⟩ := h; simp [h4.len]
theorem RE.one {σ : S} : ∀ {v : Ent} {cs : List Value}, RE σ v cs -> ∀ u ∈ cs, u.oneCell' = true
 | .mk .., cs, h => by
   simp only [RE] at h
   obtain ⟨_, _, _, r, rfl, _, _, h4⟩ := h
   intro u hu
   simp only [List.mem_cons] at hu
   rcases hu with rfl | rfl | hu
   ·rfl
   ·rfl
   ·exact h4.one u hu
theorem SlC.mono {σ τ : S} {len : Nat} {A : Option Addr} {c : Nat} {cs : List Value} (h : SlC σ len A c cs) (k : Wext σ τ) (hn : 0 < len -> cs ≠ []) : SlC τ len A c cs :=
 ⟨h.1, h.2.1, fun hl => by obtain ⟨b, o, e, hs⟩ := h.2.2 hl; exact ⟨b, o, e, hs.mono (hn hl) k⟩⟩
theorem RVs.ne {σ : S} : ∀ {xs : List Val} {cs : List Value}, RVs σ xs cs -> 0 < xs.length -> cs ≠ []
 | [], _, _, h => by simp at h
 | x :: xs, cs, h, _ => by
   simp only [RVs] at h
   obtain ⟨c, r, rfl, h1, _⟩ := h
   intro e
   have := h1.len
   rw [List.append_eq_nil_iff] at e
   rw [e.1] at this
   simp at this
theorem REs.ne {σ : S} : ∀ {xs : List Ent} {cs : List Value}, REs σ xs cs -> 0 < xs.length -> cs ≠ []
 | [], _, _, h => by simp at h
 | x :: xs, cs, h, _ => by
   simp only [REs] at h
   obtain ⟨c, r, rfl, h1, _⟩ := h
   intro e
   have := h1.len
   rw [List.append_eq_nil_iff] at e
   rw [e.1] at this
   simp at this
mutual
theorem RV.mono {σ τ : S} (k : Wext σ τ) : ∀ {v : Val} {cs : List Value}, RV σ v cs -> RV τ v cs
 | .mk .., cs, h => by
   simp only [RV] at h ⊢
   obtain ⟨A1, c1, A2, c2, A3, c3, A4, c4, f1, f3, e, h1, h2, h3, h4, h5, h6⟩ := h
   exact ⟨A1, c1, A2, c2, A3, c3, A4, c4, f1, f3, e, h1.mono k h2.ne, RVs.mono k h2, h3.mono k, h4.mono k h5.ne, REs.mono k h5, h6.mono k⟩
theorem RVs.mono {σ τ : S} (k : Wext σ τ) : ∀ {v : List Val} {cs : List Value}, RVs σ v cs -> RVs τ v cs
 | [], cs, h => by simp only [RVs] at h ⊢; exact h
 | x :: xs, cs, h => by
   simp only [RVs] at h ⊢
   obtain ⟨c, r, e, h1, h2⟩ := h
   exact ⟨c, r, e, RV.mono k h1, RVs.mono k h2⟩
theorem RE.mono {σ τ : S} (k : Wext σ τ) : ∀ {v : Ent} {cs : List Value}, RE σ v cs -> RE τ v cs
 | .mk .., cs, h => by
   simp only [RE] at h ⊢
   obtain ⟨A, c, f, r, e, h1, h2, h3⟩ := h
   exact ⟨A, c, f, r, e, h1.mono k h2.ne, RVs.mono k h2, RV.mono k h3⟩
theorem REs.mono {σ τ : S} (k : Wext σ τ) : ∀ {v : List Ent} {cs : List Value}, REs σ v cs -> REs τ v cs
 | [], cs, h => by simp only [REs] at h ⊢; exact h
 | x :: xs, cs, h => by
   simp only [REs] at h ⊢
   obtain ⟨c, r, e, h1, h2⟩ := h
   exact ⟨c, r, e, RE.mono k h1, REs.mono k h2⟩
end
instance rpVal : Rp Val where
 sz := 7
 pos := by decide
 agg := true
 cells := fun σ v cs => RV σ v cs
 len := RV.len
 one := RV.one
 mono := fun k h => RV.mono k h
instance rpEnt : Rp Ent where
 sz := 9
 pos := by decide
 agg := true
 cells := fun σ v cs => RE σ v cs
 len := RE.len
 one := RE.one
 mono := fun k h => RE.mono k h
theorem RVs.flat {σ : S} : ∀ {xs : List Val} {cs : List Value}, RVs σ xs cs ↔ Y5 σ xs cs
 | [], cs => by simp only [RVs, Y5]
 | x :: xs, cs => by
   simp only [RVs, Y5]
   constructor
   ·rintro ⟨c, r, e, h1, h2⟩; exact ⟨c, r, e, h1, RVs.flat.1 h2⟩
   ·rintro ⟨c, r, e, h1, h2⟩; exact ⟨c, r, e, h1, RVs.flat.2 h2⟩
theorem REs.flat {σ : S} : ∀ {xs : List Ent} {cs : List Value}, REs σ xs cs ↔ Y5 σ xs cs
 | [], cs => by simp only [REs, Y5]
 | x :: xs, cs => by
   simp only [REs, Y5]
   constructor
   ·rintro ⟨c, r, e, h1, h2⟩; exact ⟨c, r, e, h1, REs.flat.1 h2⟩
   ·rintro ⟨c, r, e, h1, h2⟩; exact ⟨c, r, e, h1, REs.flat.2 h2⟩
theorem SlC.sl {α : Type} [Rp α] {σ : S} {xs : List α} {A : Option Addr} {c : Nat} {cs : List Value} (h : SlC σ xs.length A c cs) (hf : Y5 σ xs cs) : Sl σ xs A c :=
 ⟨h.1, h.2.1, cs, hf, fun hn => h.2.2 (List.length_pos_iff.2 hn)⟩
theorem SlC.of {α : Type} [Rp α] {σ : S} {xs : List α} {A : Option Addr} {c : Nat} (h : Sl σ xs A c) : ∃ cs, SlC σ xs.length A c cs /\ Y5 σ xs cs := by
 obtain ⟨h1, h2, cs, h3, h4⟩ := h
 exact ⟨cs, ⟨h1, h2, fun hl => h4 (List.length_pos_iff.1 hl)⟩, h3⟩
theorem Val.cells_iff {σ : S} {v : Val} {cs : List Value} : Rp.cells σ v cs ↔ ∃ A1 c1 A2 c2 A3 c3 A4 c4,
 cs = [.int .i64 v.Kind, .int .i64 v.Int_, .string v.Text, .slice A1 v.Kids.length c1, .slice A2 v.Keys.length c2, .slice A3 v.Entries.length c3, .slice A4 v.Labels.length c4] /\
 Sl σ v.Kids A1 c1 /\ Sl σ v.Keys A2 c2 /\ Sl σ v.Entries A3 c3 /\ Sl σ v.Labels A4 c4 := by
 cases v with
 | mk k n t kids keys ents labs =>
   show RV σ _ cs ↔ _
   simp only [RV, Val.Kind, Val.Int_, Val.Text, Val.Kids, Val.Keys, Val.Entries, Val.Labels]
   constructor
   ·rintro ⟨A1, c1, A2, c2, A3, c3, A4, c4, f1, f3, e, h1, h2, h3, h4, h5, h6⟩
    exact ⟨A1, c1, A2, c2, A3, c3, A4, c4, e, h1.sl (RVs.flat.1 h2), h3, h4.sl (REs.flat.1 h5), h6⟩
   ·rintro ⟨A1, c1, A2, c2, A3, c3, A4, c4, e, h1, h3, h4, h6⟩
    obtain ⟨f1, k1, k2⟩ := SlC.of h1
    obtain ⟨f3, k4, k5⟩ := SlC.of h4
    exact ⟨A1, c1, A2, c2, A3, c3, A4, c4, f1, f3, e, k1, RVs.flat.2 k2, h3, k4, REs.flat.2 k5, h6⟩
theorem Ent.cells_iff {σ : S} {v : Ent} {cs : List Value} : Rp.cells σ v cs ↔ ∃ A c A1 c1 A2 c2 A3 c3 A4 c4,
 cs = [.slice A v.Args.length c, .bool v.Fails, .int .i64 v.Result.Kind, .int .i64 v.Result.Int_, .string v.Result.Text, .slice A1 v.Result.Kids.length c1, .slice A2 v.Result.Keys.length c2, .slice A3 v.Result.Entries.length c3, .slice A4 v.Result.Labels.length c4] /\
 Sl σ v.Args A c /\ Sl σ v.Result.Kids A1 c1 /\ Sl σ v.Result.Keys A2 c2 /\ Sl σ v.Result.Entries A3 c3 /\ Sl σ v.Result.Labels A4 c4 := by
 cases v with
 | mk args fails res =>
   show RE σ _ cs ↔ _
   simp only [RE, Ent.Args, Ent.Fails, Ent.Result]
   constructor
   ·rintro ⟨A, c, f, r, rfl, h1, h2, h3⟩
    obtain ⟨A1, c1, A2, c2, A3, c3, A4, c4, rfl, k1, k2, k3, k4⟩ := Val.cells_iff.1 h3
    exact ⟨A, c, A1, c1, A2, c2, A3, c3, A4, c4, rfl, h1.sl (RVs.flat.1 h2), k1, k2, k3, k4⟩
   ·rintro ⟨A, c, A1, c1, A2, c2, A3, c3, A4, c4, rfl, h1, k1, k2, k3, k4⟩
    obtain ⟨f, j1, j2⟩ := SlC.of h1
    exact ⟨A, c, f, _, rfl, j1, RVs.flat.2 j2, Val.cells_iff.2 ⟨A1, c1, A2, c2, A3, c3, A4, c4, rfl, k1, k2, k3, k4⟩⟩
theorem Key.cells_iff {σ : S} {v : Key} {cs : List Value} : Rp.cells σ v cs ↔ cs = [.int .i64 v.Kind, .string v.Text] := Iff.rfl
end Go.Sx
end
section
namespace Go.Qx
open Go Go.RowKit Go.Sx
end Go.Qx
namespace Go.Sx
open Go Go.RowKit Go.Qx
abbrev Key.to (v : Key) : Int × ByteArray := (v.Kind, v.Text)
abbrev Key.of (x : Int × ByteArray) : Key := ⟨x.1, x.2⟩
theorem Key.cells_to (σ : S) (v : Key) (cs : List Value) : rpKey.cells σ v cs ↔ (Y7 (rpK .i64) rpStr).cells σ v.to cs := by
 constructor
 ·intro h
  have h : cs = [.int .i64 v.Kind, .string v.Text] := h
  exact ⟨[_], [_], h, rfl, rfl⟩
 ·rintro ⟨c1, c2, e, rfl, rfl⟩
  exact e
abbrev Val.to (v : Val) : Int × (Int × (ByteArray × (List Val × (List Key × (List Ent × List ByteArray))))) := (v.Kind, v.Int_, v.Text, v.Kids, v.Keys, v.Entries, v.Labels)
abbrev Val.of (x : Int × (Int × (ByteArray × (List Val × (List Key × (List Ent × List ByteArray)))))) : Val := .mk x.1 x.2.1 x.2.2.1 x.2.2.2.1 x.2.2.2.2.1 x.2.2.2.2.2.1 x.2.2.2.2.2.2
theorem Val.cells_to (σ : S) (v : Val) (cs : List Value) : rpVal.cells σ v cs ↔
 (Y7 (rpK .i64) (Y7 (rpK .i64) (Y7 rpStr (Y7 (@rpList _ rpVal) (Y7 (@rpList _ rpKey) (Y7 (@rpList _ rpEnt) (@rpList _ rpStr))))))).cells σ v.to cs := by
 refine Val.cells_iff.trans ?_
 constructor
 ·rintro ⟨A1, c1, A2, c2, A3, c3, A4, c4, e, h1, h2, h3, h4⟩
  exact ⟨[_], _, e, rfl, [_], _, rfl, rfl, [_], _, rfl, rfl, [_], _, rfl, ⟨A1, c1, rfl, h1⟩, [_], _, rfl, ⟨A2, c2, rfl, h2⟩, [_], _, rfl, ⟨A3, c3, rfl, h3⟩, A4, c4, rfl, h4⟩
 ·rintro ⟨_, _, rfl, rfl, _, _, rfl, rfl, _, _, rfl, rfl, _, _, rfl, ⟨A1, c1, rfl, h1⟩, _, _, rfl, ⟨A2, c2, rfl, h2⟩, _, _, rfl, ⟨A3, c3, rfl, h3⟩, A4, c4, rfl, h4⟩
  exact ⟨A1, c1, A2, c2, A3, c3, A4, c4, rfl, h1, h2, h3, h4⟩
abbrev Ent.to (v : Ent) : List Val × (Bool × Val) := (v.Args, v.Fails, v.Result)
abbrev Ent.of (x : List Val × (Bool × Val)) : Ent := .mk x.1 x.2.1 x.2.2
theorem Ent.cells_to (σ : S) (v : Ent) (cs : List Value) : rpEnt.cells σ v cs ↔ (Y7 (@rpList _ rpVal) (Y7 rpBool rpVal)).cells σ v.to cs := by
 cases v with
 | mk args fails res =>
   constructor
   ·intro h
    have h : RE σ (.mk args fails res) cs := h
    simp only [RE] at h
    obtain ⟨A, c, f, r, rfl, h1, h2, h3⟩ := h
    exact ⟨[_], _, rfl, ⟨A, c, rfl, h1.sl (RVs.flat.1 h2)⟩, [_], _, rfl, rfl, h3⟩
   ·rintro ⟨_, _, rfl, ⟨A, c, rfl, h1⟩, _, r, rfl, rfl, h2⟩
    show RE σ (.mk args fails res) _
    simp only [RE]
    obtain ⟨f, j1, j2⟩ := SlC.of h1
    exact ⟨A, c, f, r, rfl, j1, RVs.flat.2 j2, h2⟩
end Go.Sx
end
section
namespace Go.Qx
open Go Go.RowKit Go.Sx
section
variable {I : TypeId -> Type} [∀ E, Rp (I E)] {P : Program}
def b5d (a b : ByteArray) : Option Int := some (b0E a b)
theorem b79 {f : FuncId} {fn : Func} (hf : P.funcs[f]? = some fn) (hname : (fn.name == "runtime.NumGoroutine") = false) (hb : fn.body.isNone = true) (hn : Extern.findNext fn = none) (he : Extern.find fn = some Extern.BytealgCompare.compare) :
 y0 P (⟨f, [.d .str, .d .str], [.k (.d (.int .i64))], b5d⟩ : Row I) := by
 intro σ a vs pls res hA _ happ
 obtain ⟨v, _, p1, _, rfl, rfl, ⟨h1, rfl⟩, v2, _, p2, _, rfl, rfl, ⟨h2, rfl⟩, rfl, rfl⟩ := hA
 have h1 : v = .string a.1 := h1
 have h2 : v2 = .string a.2.1 := h2
 have hr : b5d a.1 a.2.1 = some res := happ
 subst h1
 subst h2
 cases hr
 refine .inr ⟨_, σ, b9j hf hname hb hn he a.1 a.2.1 σ.w, Stp.refl _ σ, [.int .i64 (b0E a.1 a.2.1)], [], [], ⟨rfl, rfl, ⟨_, rfl, rfl, rfl⟩, rfl, by simp [ows], fun g hg => by simp [ows] at hg⟩⟩
def a2d {α : Type} (b : Nat) (xs : List α) : Option (List α) := Option.bind (a0q (0 + xs.length) b) fun _ => some xs
def noH : Hints I := ⟨fun _ => [], fun _ => [], fun _ => [], fun _ => none, fun _ => none, fun _ => none, fun _ => none⟩
def noD : K6 I := fun _ _ _ _ _ _ => none
theorem b8p : DispOk P (noD : K6 I) := ⟨fun _ _ _ _ _ _ => rfl, fun _ _ _ _ _ h => by cases h⟩
def b3n (E : TypeId) (xs : List (I E)) : St I := ⟨8, fun i => bif Nat.beq i 0 then some (.sl E xs false) else none, fun _ => none, 0⟩
theorem b2M {tb : Tab I} (ht : TabOk P tb) (hmx : P.follows .mixedOrders = true) {f : FuncId} {fn : Func} {T E : TypeId} {b : Nat} {i0 i1 i2 : Nat} {p0 p1 p2 p3 : String} {a2 : Array Edge} {t0 t1 t2 t3 t4 : TypeId} {cd3 : Code}
 (hf : P.funcs[f]? = some fn) (hname : (fn.name == "runtime.NumGoroutine") = false) (hn : fn.ntmps = 8) (hres : fn.results.toList = [.tmp 2]) (hT : P.underlying T = some (.slice E))
 (hb : fn.body = some (.seq (.region i0 #[⟨some 2, .assign (.const (.slice none 0 0)), t0, p0, #[], none⟩] false) (.seq (.seq (.region i1 #[⟨some 3, .move (.tmp 0), t1, p1, #[], none⟩, ⟨some 4, .binOp .eql T (.tmp 3) (.const (.slice none 0 0)) t2, t3, p2, a2, none⟩] false)
   (.cond (.tmp 4) (.seq (.region i2 #[⟨some 2, .assign (.const (.slice none 0 0)), t4, p3, #[], none⟩] false) .ret) .skip)) cd3)))
 (hcode : a0s (noH : Hints I) cd3 1 = true) (hex : ∀ xs : List (I E), a38 tb noD noH cd3 1 (List (I E)) (b3n E xs) (fin tb [.d (.sl E)] [.k (.row E false)] [.tmp 2]) = a2d b xs) :
 y0 P (⟨f, [.d (.sl E)], [.k (.row E false)], a2d b⟩ : Row I) := by
 refine b5Y ht 8 hf hb hname hn hres rfl fun X c σ F Q a res hX hrel happ hk => ?_
 subst hX
 have happ : a2d b a.1 = some res := happ
 have h0 := hrel.frame 0 (.sl E a.1 false) rfl
 simp only [RV] at h0
 obtain ⟨A, k, e0, hs, _⟩ := h0
 refine wp_seq (wp_region_lit ?_)
 refine a93 (.slice none 0 0) rfl rfl ?_
 refine wpList_nil (b0k (wp_seq (wp_seq (wp_region_lit ?_))))
 refine b5F (.slice A (a.1 : List (I E)).length k) e0 rfl ?_
 refine b7q (.slice A (a.1 : List (I E)).length k) (.slice none 0 0) (.bool A.isNone) rfl rfl rfl rfl (b9m hT) ?_
 refine wpList_nil (b0k ?_)
 have hgen : ∀ (G : Fr), G 0 = F 0 -> Rel X c σ (b3n E a.1) 8 G := fun G hG =>
  ⟨rfl, (fun i p hp => by
   have : (bif Nat.beq i 0 then some (PV.sl E a.1 false) else none) = some p := hp
   obtain ⟨hi, hp⟩ := y4 this
   cases hp
   have := Nat.eq_of_beq_eq_true hi
   subst this
   rw [hG]
   exact hrel.frame 0 _ rfl), (fun l o ho => by cases ho), (fun _ _ _ _ _ ⟨_, h⟩ => by cases h), (fun _ _ _ ⟨_, h⟩ => by cases h), fun l _ => hrel.nom l rfl, hrel.base, noN.nests fun _ _ _ _ _ _ h => by cases h⟩
 refine (Bool.eq_false_or_eq_true A.isNone).elim (fun hn4 => ?_) (fun hn4 => ?_)
 ·have e : a.1 = [] := hs.nil_of hn4
  have hr : res = [] := by
   rw [e] at happ
   simp [a2d, a0q] at happ
   exact (Option.some.inj happ).symm
  refine b8M rfl hn4 rfl ?_
  refine wp_seq (wp_region_lit ?_)
  refine a93 (.slice none 0 0) rfl rfl ?_
  refine wpList_nil (b0k (wp_ret (b7A ?_)))
  subst hr
  refine hk .ret (Qx.put (b3n E a.1) (some 2) (.nl E)) c σ _ ?_ (Cx.le_refl c) ((hgen (Y4 (Y4 (Y4 F (some 2) (.slice none 0 0)) (some 3) (.slice A (a.1 : List (I E)).length k)) (some 4) (.bool A.isNone)) rfl).put (some 2) _ (.slice none 0 0) (by simp only [RV]; exact ⟨none, rfl⟩)) (Stp.refl _ σ)
  rfl
 ·refine b7M rfl hn4 rfl ?_
  refine wp_skip (b0k ?_)
  exact a0V ht b8p hmx cd3 1 hcode _ _ _ res X c σ _ Q rfl ((hex a.1).trans happ) (hgen _ rfl) fun e s' c' τ F' g1 g2 g3 g4 _ => hk e s' c' τ F' g1 g2 g3 g4
end
end Go.Qx
end
section
namespace Go.Qx
open Go Go.RowKit Go.Sx
section
variable {α : Type}
variable {lt : α -> α -> Bool} {xs : List α}
structure Tot (lt : α -> α -> Bool) (xs : List α) : Prop where
 irr : ∀ x ∈ xs, lt x x = false
 trans : ∀ x ∈ xs, ∀ y ∈ xs, ∀ z ∈ xs, lt x y = true -> lt y z = true -> lt x z = true
 tot : ∀ x ∈ xs, ∀ y ∈ xs, lt x y = false -> lt y x = false -> x = y
theorem Tot.sub {ys : List α} (h : Tot lt xs) (hs : ∀ x ∈ ys, x ∈ xs) : Tot lt ys :=
 ⟨fun x hx => h.irr x (hs x hx), fun x hx y hy z hz => h.trans x (hs x hx) y (hs y hy) z (hs z hz), fun x hx y hy => h.tot x (hs x hx) y (hs y hy)⟩
end
section
variable {α : Type} [Rp α] {σ τ : S}
def a2W (w : World) (g m : Nat) (F : Array Value) (os : Array Obj) : World := Sort.grow (Sort.putRow id (Sort.ahead w m) g 0 F) os
theorem b3y {w : World} {g m : Nat} {F : Array Value} {os : Array Obj} {b : Nat} (hb : b < w.heap.size) (hne : b ≠ g) : (a2W w g m F os).heap[b]? = w.heap[b]? := by
 simp only [a2W, Sort.grow, Sort.putRow, Sort.mapBlock, Sort.ahead]
 rw [Array.getElem?_append_left (by simpa using hb), Array.getElem?_modify, if_neg (fun e => hne e.symm)]
theorem b6w {w : World} {g m : Nat} {F : Array Value} {os : Array Obj} {cur : Array Value} {E : TypeId} (h : w.heap[g]? = some (.cells cur E (0, 0))) (hF : F.size <= cur.size) :
 (a2W w g m F os).heap[g]? = some (.cells (F.toList ++ cur.toList.drop F.size).toArray E (0, 0)) := by
 have hb : g < w.heap.size := W7 h
 simp only [a2W, Sort.grow, Sort.putRow, Sort.mapBlock, Sort.ahead]
 rw [Array.getElem?_append_left (by simpa using hb), Array.getElem?_modify, if_pos rfl, h]
 simp only [Option.map_some, Sort.onCells, Option.some.injEq, Obj.cells.injEq, and_self, and_true]
 apply Array.ext_getElem?
 intro i
 simp only [Sort.putCells, Array.getElem?_mapIdx, List.getElem?_toArray, id]
 by_cases hi : i < F.size
 ·rw [List.getElem?_append_left (by simpa using hi), Array.getElem?_toList, Array.getElem?_eq_getElem hi, Array.getElem?_eq_getElem (by omega : i < cur.size)]
  simp only [Option.map_some, Nat.zero_le, Nat.zero_add, hi, and_self, if_true, Nat.sub_zero]
  rw [getElem!_pos F i hi]
 ·rw [List.getElem?_append_right (by simpa using Nat.le_of_not_lt hi), List.getElem?_drop]
  rw [Array.length_toList, Nat.add_sub_cancel' (Nat.le_of_not_lt hi), Array.getElem?_toList]
  cases hc : cur[i]? with
  | none => rfl
  | some v => simp [hi]
def b2Y (σ : S) (W : World) : S := ⟨W, fun b => if b < σ.N then σ.L b else (0, b)⟩
theorem b5R (w : World) (g m : Nat) (F : Array Value) (os : Array Obj) : (a2W w g m F os).heap.size = w.heap.size + os.size := by
 simp [a2W, Sort.grow, Sort.putRow, Sort.mapBlock, Sort.ahead]
theorem b3v {g m k : Nat} {E : TypeId} {xs : List α} {A : Option Addr} {F : Array Value} {os : Array Obj} (hown : J6 (some g) false E σ xs A k) : Stp (fun b => b = g) σ (b2Y σ (a2W σ.w g m F os)) := by
 obtain ⟨cur, cs, rfl, hh, h1, h2, h3, h4, h5, h6⟩ := hown
 have hL : ∀ b, b < σ.N -> (b2Y σ (a2W σ.w g m F os)).L b = σ.L b := fun b hb => by simp [b2Y, hb]
 refine ⟨⟨?_, fun b hb => by rw [hL b hb]; exact Nat.le_refl _, fun b o v ho hc => ?_, ?_⟩, rfl, rfl, rfl, fun b hb hn => ⟨b3y hb hn, by rw [hL b hb]⟩⟩
 ·show σ.w.heap.size <= (a2W σ.w g m F os).heap.size
  rw [b5R]; omega
 ·have hlt := a1j hc
  by_cases e : b = g
  ·subst e
   rw [show (σ.L b).1 = 0 from h6] at ho
   omega
  ·exact (a0p (b3y hlt e) o).trans hc
 ·show σ.w.drawn <= (a2W σ.w g m F os).drawn
  simp [a2W, Sort.grow, Sort.putRow, Sort.mapBlock, Sort.ahead]
theorem b6D {g m k : Nat} {E : TypeId} {xs ys : List α} {A : Option Addr} {F : Array Value} {os : Array Obj} (hown : J6 (some g) false E σ xs A k) (hF : Y5 σ ys F.toList) (hl : ys.length = xs.length) :
 J6 (some g) false E (b2Y σ (a2W σ.w g m F os)) ys A k := by
 have hst := b3v (m := m) (F := F) (os := os) hown
 obtain ⟨cur, cs, rfl, hh, h1, h2, h3, h4, h5, h6⟩ := hown
 have hFs : F.size = xs.length * Rp.sz α := by rw [<- Array.length_toList, hF.len, hl]
 have hle : F.size <= cur.size := by rw [hFs, h3]; exact Nat.mul_le_mul_right _ h1
 refine ⟨(F.toList ++ cur.toList.drop F.size).toArray, F.toList, rfl, b6w hh hle, by rw [hl]; exact h1, h2, ?_, hF.mono hst.wext, ?_, ?_⟩
 ·simp; omega
 ·rw [hl, <- hFs, <- Array.length_toList]
  exact List.take_left
 ·show (if g < σ.N then σ.L g else (0, g)).1 = _
  rw [if_pos (W7 hh)]
  exact h6
theorem b4z {β : Type} [Inhabited β] (enc : β -> Value) (w : World) (g : Nat) (dk : Array β) : Sort.putRow enc w g 0 dk = Sort.putRow id w g 0 (dk.map enc) := by
 unfold Sort.putRow
 congr 1
 funext c
 unfold Sort.putCells
 apply Array.ext_getElem?
 intro i
 simp only [Array.getElem?_mapIdx, Array.size_map]
 cases hc : c[i]? with
 | none => rfl
 | some v =>
   simp only [Option.map_some, Option.some.injEq]
   split
   ·rename_i hi
    have hi' : i - 0 < dk.size := by omega
    rw [getElem!_pos dk (i - 0) hi', id, getElem!_pos (dk.map enc) (i - 0) (by simpa using hi'), Array.getElem_map]
   ·rfl
end
section
variable {I : TypeId -> Type} [∀ E, Rp (I E)] {P : Program}
def a5u {α : Type} (toI : α -> Int) (xs : List α) : Option (Unit × List α) := bif decide (xs.length < 4611686018427387904) then some ((), xs.mergeSort fun x y => decide (toI x <= toI y)) else none
def b1r (xs : List Int) : Option (Unit × List Int) := a5u (fun x => x) xs
open Go.Proofs in
theorem b5D {ρ : Go.Shelf.Ren} (L : Go.Proofs.Lays.n189 P ρ) (f : FuncId) (hf : ρ.f 189 = f) {E : TypeId} (toI : I E -> Int) (hI : ∀ {σ : S} {x : I E} {cs : List Value}, Rp.cells σ x cs ↔ cs = [.int .i64 (toI x)]) (hb : a3V P f) :
 a8J P (⟨f, E, [], [], fun xs => a5u toI xs⟩ : Rio I) := by
 subst hf
 intro σ xs a vs pls res ys hA hnd happ
 obtain ⟨v1, vs1, p1, q1, e1, e2, ⟨A, k, ow, e3, hown, e4⟩, e9, e10⟩ := hA
 have happ : a5u toI xs = some (res, ys) := happ
 unfold a5u at happ
 obtain ⟨hlen, happ⟩ := y4 happ
 have hlen : xs.length < 4611686018427387904 := by simpa using hlen
 have e9 : vs1 = [] := e9
 have e10 : q1 = [] := e10
 have e3 : v1 = .slice A xs.length k := e3
 have e4 : p1 = [⟨A, k, xs.length, ow⟩] := e4
 subst e9; subst e10; subst e4; subst e3; subst e1
 rw [List.append_nil] at e2
 subst e2
 cases happ
 have hpost : ∀ {τ : S}, Post (I := I) σ τ [.row E false] [] [.slice A xs.length k] () (ows [(⟨A, k, xs.length, ow⟩ : Pl)]) (.tuple #[]) [] [] [] := ⟨rfl, rfl, ⟨rfl, rfl⟩, rfl, by simp [ows], fun g hg => by simp [ows] at hg⟩
 refine .inl ⟨hb, ?_⟩
 have hown : J6 ow false E σ xs A k := hown
 cases hx : xs with
 | nil =>
   subst hx
   refine (Any.slices_Sort_int_none L A k σ.w).mono fun e w' ⟨he, hw⟩ => ?_
   exact ⟨_, σ, he, hw.symm, Stp.refl _ _, [], [], [], hpost, A, k, ow, rfl, by simp, by simpa using hown, fun g _ => by simp [ows]⟩
 | cons x0 r0 =>
   rw [<- hx]
   cases ow with
   | none =>
     rcases hown with ⟨e, _⟩ | ⟨e, _⟩
     ·rw [hx] at e; cases e
     ·cases e
   | some gb =>
     have hown0 := hown
     obtain ⟨cur, cs, rfl, hh, h1, h2, h3, h4, h5, h6⟩ := hown
     have hsz1 : Rp.sz (I E) = 1 := by
      have := Rp.len (hI (σ := σ) (x := x0).2 rfl)
      simpa using this.symm
     have hcsU : ∀ {l : List (I E)} {ds : List Value}, Y5 σ l ds -> ds = l.map fun x => Value.int .i64 (toI x) := by
      intro l
      induction l with
      | nil => intro ds h; exact h
      | cons x l ih =>
        intro ds ⟨c, r, e, hc, hr⟩
        rw [e, hI.1 hc, ih hr]; rfl
     have hflat1 : ∀ {υ : S} (l : List (I E)), Y5 υ l (l.map fun x => Value.int .i64 (toI x)) := by
      intro υ l
      induction l with
      | nil => rfl
      | cons x l ih => exact ⟨[_], _, rfl, hI.2 rfl, ih⟩
     let toL : I E -> Int := toI
     have hholds : Sort.Holds (Value.int .i64) σ.w gb 0 (xs.map toL).toArray := by
      intro j hj
      have hj' : j < xs.length := by simpa using hj
      refine ⟨?_, by simp [World.frozen?, hh]⟩
      have e1 : σ.w.cell? ⟨gb, 0 + j, none⟩ = cur[j]? := by simp [World.cell?, hh]
      have e2 : cur[j]? = cs[j]? := by rw [<- h5, hsz1, Nat.mul_one, List.getElem?_take_of_lt hj', Array.getElem?_toList]
      rw [e1, e2, hcsU h4, List.getElem?_map, List.getElem?_eq_getElem hj', getElem!_pos _ j (by simpa using hj')]
      simp [toL]
     have main := Any.slices_Sort_int L gb 0 k (xs.map toL) σ.w hholds (W7 hh) (by simpa using hlen)
     rw [List.length_map] at main
     refine Calls.mono main fun e w' ⟨he, m, os, hw⟩ => ?_
     have hmap : ((xs.mergeSort fun x y => decide (toL x <= toL y)).map toL) = (xs.map toL).mergeSort fun x y => decide (x <= y) := List.map_mergeSort fun a _ b _ => rfl
     let ys := xs.mergeSort fun x y => decide (toL x <= toL y)
     have hput : ∀ (w : World), Sort.putRow (Value.int .i64) w gb 0 ((xs.map toL).mergeSort fun x y => decide (x <= y)).toArray = Sort.putRow id w gb 0 (ys.map fun x => Value.int .i64 (toI x)).toArray := fun w => by
      rw [b4z, <- hmap]
      congr 1
      simp [ys, toL]
     have hst := b3v (m := m) (F := (ys.map fun x => Value.int .i64 (toI x)).toArray) (os := os) hown0
     refine ⟨_, b2Y σ (a2W σ.w gb m (ys.map fun x => Value.int .i64 (toI x)).toArray os), he, ?_, hst.mono fun b _ e => by rw [e]; simp [ows], [], [], [], hpost, _, k, some gb, rfl, by simp, ?_, fun g _ => by simp [ows]⟩
     ·rw [hw]
      show a2W σ.w gb m (ys.map fun x => Value.int .i64 (toI x)).toArray os = _
      unfold a2W
      rw [hput]
     ·exact b6D hown0 (hflat1 ys) (by simp [ys])
end
end Go.Qx
end
section
namespace Go.Qx
open Go Go.RowKit Go.Sx
set_option maxRecDepth 100000
structure Api_Goal where
 Pos : List Int
 Neg : List Int
 Lists : Bool
structure Api_Box where
 Parts : List Api_Goal
structure Api_Field where
 Key_ : Key
 Node : Int
 Optional : Bool
structure Api_TypeNode where
 Kind : Int
 Lo : Int
 Hi : Int
 Text : ByteArray
 Kids : List Int
 Fields : List Api_Field
 Rest : Int × Int
structure Api_Type where
 Nodes : List Api_TypeNode
 Root : Int
structure Semtypebase_Source where
 L : List Int
 At : Int
structure Value_used where
 number : Bool
 text_ : Bool
 kids : Bool
 keys : Bool
 entries : Bool
def b0d (x y : Int × Int) : Bool := ((x.1 == y.1) && ((x.2 == y.2) && true))
def a6A (x y : Key) : Bool := ((x.Kind == y.Kind) && ((a0j x.Text y.Text) && true))
def J2 (s : Semtypebase_Source) (n_1 : Int) : Option (Int × Semtypebase_Source) :=
 Option.bind (bif decide (n_1 < 1)
 then (some true)
 else (some (decide ((s.L.length : Int) <= s.At)))) fun q1 =>
 bif q1
 then (some (0, s))
 else (Option.bind (idx s.L s.At) fun e2 =>
 Option.bind (a6c e2 n_1) fun d3 =>
 bif decide (d3 < 0)
 then (some (wr .i64 (d3 + n_1), Semtypebase_Source.mk s.L (wr .i64 (s.At + 1))))
 else (some (d3, Semtypebase_Source.mk s.L (wr .i64 (s.At + 1)))))
def X6 (width : Int) (x3 : (List Int) × Int × Semtypebase_Source) : Option (Fl ((List Int) × Int × Semtypebase_Source) ((List Int) × Semtypebase_Source)) :=
 bif decide (x3.2.1 < width)
 then (Option.bind (J2 x3.2.2 8) fun r4 =>
 Option.bind (a0q (x3.1.length + ([r4.1] : List Int).length) 8) fun _ =>
 some (.next (x3.1 ++ ([r4.1] : List Int), wr .i64 (x3.2.1 + 1), r4.2)))
 else (some (.done (x3.1, x3.2.2)))
def X2 (width : Int) (x2 : (List (List Int)) × Int × Semtypebase_Source) : Option (Fl ((List (List Int)) × Int × Semtypebase_Source) ((List (List Int)) × Semtypebase_Source)) :=
 bif decide (0 < x2.2.1)
 then (Option.bind (j5 (X6 width) (width.toNat + 1) ([], 0, x2.2.2)) fun b6 =>
 Option.bind (J2 b6.2 12) fun r7 =>
 Option.bind (bif r7.1 == 11
 then (Option.bind (a0q (b6.1.length + ([0] : List Int).length) 8) fun _ =>
 some (b6.1 ++ ([0] : List Int)))
 else (some b6.1)) fun b9 =>
 Option.bind (a0q (x2.1.length + ([b9] : List (List Int)).length) 24) fun _ =>
 some (.next (x2.1 ++ ([b9] : List (List Int)), wr .i64 (x2.2.1 - 1), r7.2)))
 else (some (.done (x2.1, x2.2.2)))
def V3 (l : List Int) (width : Int) (most : Int) : Option (List (List Int)) :=
 Option.bind (J2 (Semtypebase_Source.mk l 0) (wr .i64 (most + 1))) fun r1 =>
 Option.bind (j5 (X2 width) (r1.1.toNat + 2) ([], r1.1, r1.2)) fun b11 =>
 some b11.1
def V2 (s : List (List Int)) (f : (List Int) -> Option Bool) (x1 : Int) : Option (Fl Int (Sum Unit Int)) :=
 bif decide (x1 < (s.length : Int))
 then (Option.bind (idx s x1) fun e2 =>
 Option.bind (f e2) fun r3 =>
 bif r3
 then (some (.done (.inr x1)))
 else (some (.next (wr .i64 (x1 + 1)))))
 else (some (.done (.inl ())))
def a0u (s : List (List Int)) (f : (List Int) -> Option Bool) : Option Int :=
 Option.bind (j5 (V2 s f) ((s.length : Int).toNat + 1) 0) fun b4 =>
 w9 (fun _ =>
 some (-1)) (fun y6 =>
 some y6) b4
def V1 (s : List (List Int)) (f : (List Int) -> Option Bool) : Option Bool :=
 Option.bind (a0u s f) fun r1 =>
 some (decide (0 <= r1))
def a33 (r : List Int) (a1_1 : Int) : Option Bool :=
 some ((r.length : Int) != a1_1)
def a2c (width : Int) (rows : List (List Int)) : Option Bool :=
 Option.bind (V1 rows (fun z1 =>
 Option.bind (a33 z1 width) fun r2 =>
 some r2)) fun r3 =>
 some (!r3)
def V5 (s : List Int) (f : Int -> Option Bool) (x1 : Int) : Option (Fl Int (Sum Unit Int)) :=
 bif decide (x1 < (s.length : Int))
 then (Option.bind (idx s x1) fun e2 =>
 Option.bind (f e2) fun r3 =>
 bif r3
 then (some (.done (.inr x1)))
 else (some (.next (wr .i64 (x1 + 1)))))
 else (some (.done (.inl ())))
def a0F (s : List Int) (f : Int -> Option Bool) : Option Int :=
 Option.bind (j5 (V5 s f) ((s.length : Int).toNat + 1) 0) fun b4 =>
 w9 (fun _ =>
 some (-1)) (fun y6 =>
 some y6) b4
def Z3 (s : List Int) (f : Int -> Option Bool) : Option Bool :=
 Option.bind (a0F s f) fun r1 =>
 some (decide (0 <= r1))
def X9 (s : List Int) (v : Int) (x1 : Int) : Option (Fl Int (Sum Unit Int)) :=
 bif decide (x1 < (s.length : Int))
 then (Option.bind (idx s x1) fun e2 =>
 bif v == e2
 then (some (.done (.inr x1)))
 else (some (.next (wr .i64 (x1 + 1)))))
 else (some (.done (.inl ())))
def a1D (s : List Int) (v : Int) : Option Int :=
 Option.bind (j5 (X9 s v) ((s.length : Int).toNat + 1) 0) fun b3 =>
 w9 (fun _ =>
 some (-1)) (fun y5 =>
 some y5) b3
def a0a (s : List Int) (v : Int) : Option Bool :=
 Option.bind (a1D s v) fun r1 =>
 some (decide (0 <= r1))
def a3u (x : Int) (a1_1 : List Int) : Option Bool :=
 Option.bind (a0a a1_1 x) fun r1 =>
 some r1
def a2P (a : List Int) (b : List Int) : Option Bool :=
 Option.bind (Z3 a (fun z1 =>
 Option.bind (a3u z1 b) fun r2 =>
 some r2)) fun r3 =>
 some r3
def Q2 (x1 : (List Int) × Int) (x16 : (Int × Int) × List Int) : Option (Fl ((Int × Int) × List Int) (Int × List Int)) :=
 bif decide (x16.1.2 < ((x16.2.drop x1.2.toNat).length : Int))
 then (Option.bind (idx (x16.2.drop x1.2.toNat) x16.1.2) fun _ =>
 Option.bind (x16.2[(x1.2.toNat + x16.1.2.toNat)]?) fun e18 =>
 Option.bind (idx (x16.2.drop x1.2.toNat) (wr .i64 (x16.1.2 - 1))) fun _ =>
 Option.bind (x16.2[(x1.2.toNat + (wr .i64 (x16.1.2 - 1)).toNat)]?) fun e20 =>
 bif e18 != e20
 then (Option.bind (idx (x16.2.drop x1.2.toNat) x16.1.2) fun _ =>
 Option.bind (x16.2[(x1.2.toNat + x16.1.2.toNat)]?) fun e22 =>
 Option.bind (idx x16.2 x16.1.1) fun _ =>
 Option.bind (x16.2[x16.1.1.toNat]?) fun _ =>
 some (.next ((wr .i64 (x16.1.1 + 1), wr .i64 (x16.1.2 + 1)), x16.2.set x16.1.1.toNat e22)))
 else (some (.next ((x16.1.1, wr .i64 (x16.1.2 + 1)), x16.2))))
 else (some (.done (x16.1.1, x16.2)))
def K4 (x1 : (List Int) × Int) : Option (Fl ((List Int) × Int) (Sum (List Int) ((List Int) × (List Int)))) :=
 bif decide (x1.2 < (x1.1.length : Int))
 then (Option.bind (idx x1.1 x1.2) fun _ =>
 Option.bind (x1.1[x1.2.toNat]?) fun e3 =>
 Option.bind (idx x1.1 (wr .i64 (x1.2 - 1))) fun _ =>
 Option.bind (x1.1[(wr .i64 (x1.2 - 1)).toNat]?) fun e5 =>
 bif e3 == e5
 then (Option.bind (idx x1.1 x1.2) fun _ =>
 Option.bind (j5 (Q2 x1) (((x1.1.drop x1.2.toNat).length : Int).toNat + 1) ((x1.2, 1), x1.1)) fun b25 =>
 Option.bind (idx b25.2 b25.1) fun _ =>
 bif Nat.blt b25.1.toNat b25.2.length
 then (Option.bind (cut (b25.2.take b25.1.toNat ++ List.replicate (b25.2.length - b25.1.toNat) (0 : Int)) 0 b25.1) fun y27 =>
 some (.done (.inr (b25.2.take b25.1.toNat ++ List.replicate (b25.2.length - b25.1.toNat) (0 : Int), y27))))
 else (none))
 else (some (.next (x1.1, wr .i64 (x1.2 + 1)))))
 else (some (.done (.inl x1.1)))
def a0e (s : List Int) : Option (List Int) :=
 bif decide ((s.length : Int) < 2)
 then (some s)
 else (Option.bind (j5 K4 ((s.length : Int).toNat + 1) (s, 1)) fun b28 =>
 w9 (fun x29 =>
 some x29) (fun y30 =>
 some y30.2) b28)
def a1Q (s : List Int) : Option (List Int) :=
 bif (s.length : Int) == (s.length : Int) && (s.length : Int) == (s.length : Int)
 then (some s)
 else (none)
def a2L (l : List Int) : Option (List Int) :=
 Option.bind (a2d 8 l) fun r1 =>
 Option.bind (b1r r1) fun r2 =>
 Option.bind (a0e r2.2) fun r3 =>
 Option.bind (a1Q r3) fun r4 =>
 some r4
def a4k (g : Api_Goal) : Option Api_Goal :=
 Option.bind (a2L g.Pos) fun r1 =>
 Option.bind (a2L g.Neg) fun r2 =>
 some (Api_Goal.mk r1 r2 g.Lists)
def a1k (t : List (List Int)) (x1 : Int × (List Api_Goal) × (List Api_Goal)) (x2 : Int × ((List Int) × (List Int) × Bool)) : Option (Fl (Int × ((List Int) × (List Int) × Bool)) ((List Int) × (List Int) × Bool)) :=
 bif decide (x2.1 < (t.length : Int))
 then (Option.bind (idx t x2.1) fun e3 =>
 Option.bind (idx e3 x1.1) fun e4 =>
 Option.bind (a0q (x2.2.1.length + ([e4] : List Int).length) 8) fun _ =>
 some (.next (wr .i64 (x2.1 + 1), (x2.2.1 ++ ([e4] : List Int), x2.2.2.1, x2.2.2.2))))
 else (some (.done (x2.2.1, x2.2.2.1, x2.2.2.2)))
def a1h (a2_2 : List (List Int)) (a3_3 : List (List Int)) (a4_4 : List Int) (x1 : Int × (List Api_Goal) × (List Api_Goal)) (x7 : Int × ((List Int) × (List Int) × Bool)) : Option (Fl (Int × ((List Int) × (List Int) × Bool)) ((List Int) × (List Int) × Bool)) :=
 bif decide (x7.1 < (a2_2.length : Int))
 then (Option.bind (idx a2_2 x7.1) fun e8 =>
 Option.bind (idx a3_3 x7.1) fun e9 =>
 Option.bind (idx a4_4 x7.1) fun _ =>
 Option.bind (a4_4[x7.1.toNat]?) fun e11 =>
 Option.bind (idx e9 e11) fun e12 =>
 bif e12 == x1.1
 then (Option.bind (idx e8 x1.1) fun e13 =>
 Option.bind (a0q (x7.2.2.1.length + ([e13] : List Int).length) 8) fun _ =>
 some (.next (wr .i64 (x7.1 + 1), (x7.2.1, x7.2.2.1 ++ ([e13] : List Int), x7.2.2.2))))
 else (some (.next (wr .i64 (x7.1 + 1), (x7.2.1, x7.2.2.1, x7.2.2.2)))))
 else (some (.done (x7.2.1, x7.2.2.1, x7.2.2.2)))
def a0c (d : Int) (t : List (List Int)) (a2_2 : List (List Int)) (a3_3 : List (List Int)) (a4_4 : List Int) (x1 : Int × (List Api_Goal) × (List Api_Goal)) : Option (Fl (Int × (List Api_Goal) × (List Api_Goal)) (Sum ((List Api_Goal) × (List Api_Goal)) (Bool × (List Api_Goal) × (List Api_Goal)))) :=
 bif decide (x1.1 < d)
 then (Option.bind (j5 (a1k t x1) ((t.length : Int).toNat + 1) (0, ([], [], false))) fun b6 =>
 Option.bind (j5 (a1h a2_2 a3_3 a4_4 x1) ((a2_2.length : Int).toNat + 1) (0, (b6.1, b6.2.1, b6.2.2))) fun b15 =>
 Option.bind (a2P b15.1 b15.2.1) fun r16 =>
 bif r16
 then (some (.done (.inr (false, x1.2.2, x1.2.2))))
 else (Option.bind (a4k (Api_Goal.mk b15.1 b15.2.1 b15.2.2)) fun r17 =>
 Option.bind (a0q (x1.2.2.length + ([r17] : List Api_Goal).length) 56) fun _ =>
 some (.next (wr .i64 (x1.1 + 1), x1.2.1, x1.2.2 ++ ([r17] : List Api_Goal)))))
 else (some (.done (.inl (x1.2.1, x1.2.2))))
def a4h (d : Int) (t : List (List Int)) (a2_2 : List (List Int)) (a3_3 : List (List Int)) (a4_4 : List Int) : Option (Api_Box × Bool) :=
 Option.bind (j5 (a0c d t a2_2 a3_3 a4_4) (d.toNat + 1) (0, ([] : List Api_Goal), [])) fun (b19 : Sum ((List Api_Goal) × (List Api_Goal)) (Bool × (List Api_Goal) × (List Api_Goal))) =>
 w9 (fun x20 =>
 some (Api_Box.mk x20.2, true)) (fun y21 =>
 some (Api_Box.mk y21.2.1, y21.1)) b19
def Q1 (digits : List Int) (options : List (List Int)) (x11 : Int × List Int) : Option (Fl (Int × List Int) (Sum (Unit × List Int) (Bool × List Int))) :=
 bif decide (x11.1 < (digits.length : Int))
 then (Option.bind (idx x11.2 x11.1) fun _ =>
 Option.bind (x11.2[x11.1.toNat]?) fun e13 =>
 Option.bind (idx x11.2 x11.1) fun _ =>
 Option.bind (x11.2[x11.1.toNat]?) fun _ =>
 Option.bind (idx (x11.2.set x11.1.toNat (wr .i64 (e13 + 1))) x11.1) fun _ =>
 Option.bind ((x11.2.set x11.1.toNat (wr .i64 (e13 + 1)))[x11.1.toNat]?) fun e17 =>
 Option.bind (idx options x11.1) fun e18 =>
 bif decide (e17 < (e18.length : Int))
 then (some (.done (.inr (true, x11.2.set x11.1.toNat (wr .i64 (e13 + 1))))))
 else (Option.bind (idx (x11.2.set x11.1.toNat (wr .i64 (e13 + 1))) x11.1) fun _ =>
 Option.bind ((x11.2.set x11.1.toNat (wr .i64 (e13 + 1)))[x11.1.toNat]?) fun _ =>
 some (.next (wr .i64 (x11.1 + 1), (x11.2.set x11.1.toNat (wr .i64 (e13 + 1))).set x11.1.toNat 0))))
 else (some (.done (.inl ((), x11.2))))
def a1S (digits : List Int) (options : List (List Int)) : Option (Bool × List Int) :=
 Option.bind (j5 (Q1 digits options) ((digits.length : Int).toNat + 1) (0, digits)) fun (b21 : Sum (Unit × List Int) (Bool × List Int)) =>
 w9 (fun x22 =>
 some (false, x22.2)) (fun y23 =>
 some (y23.1, y23.2)) b21
def a0G (a3_3 : Int -> Option Bool) (x7 : Int × List (List Int)) (e8 : List Int) (x9 : Int × List (List Int)) : Option (Fl (Int × List (List Int)) (Unit × List (List Int))) :=
 bif decide (x9.1 < (e8.length : Int))
 then (Option.bind (idx e8 x9.1) fun e10 =>
 Option.bind (a3_3 e10) fun r11 =>
 bif r11
 then (Option.bind (idx x9.2 x7.1) fun _ =>
 Option.bind (x9.2[x7.1.toNat]?) fun e13 =>
 Option.bind (a0q (e13.length + ([x9.1] : List Int).length) 8) fun _ =>
 Option.bind (idx x9.2 x7.1) fun _ =>
 Option.bind (x9.2[x7.1.toNat]?) fun _ =>
 bif Nat.beq (x7.1.toNat + 2) (x7.1.toNat + 2)
 then (some (.next (wr .i64 (x9.1 + 1), x9.2.set x7.1.toNat (e13 ++ ([x9.1] : List Int)))))
 else (none))
 else (some (.next (wr .i64 (x9.1 + 1), x9.2))))
 else (some (.done ((), x9.2)))
def W3 (a2_2 : List (List Int)) (a3_3 : Int -> Option Bool) (x7 : Int × List (List Int)) : Option (Fl (Int × List (List Int)) (Sum (Unit × List (List Int)) ((List Api_Box) × List (List Int)))) :=
 bif decide (x7.1 < (a2_2.length : Int))
 then (Option.bind (idx a2_2 x7.1) fun e8 =>
 Option.bind (j5 (a0G a3_3 x7 e8) ((e8.length : Int).toNat + 1) (0, x7.2)) fun b17 =>
 Option.bind (idx b17.2 x7.1) fun _ =>
 Option.bind (b17.2[x7.1.toNat]?) fun e19 =>
 bif (e19.length : Int) == 0
 then (some (.done (.inr ([], b17.2))))
 else (some (.next (wr .i64 (x7.1 + 1), b17.2))))
 else (some (.done (.inl ((), x7.2))))
def a0E (d : Int) (t : List (List Int)) (a2_2 : List (List Int)) (x21 : Unit × List (List Int)) (x24 : (List Int) × (List Api_Box)) : Option (Fl ((List Int) × (List Api_Box)) ((List Api_Box) × (List Int))) :=
 Option.bind (a4h d t a2_2 x21.2 x24.1) fun r25 =>
 Option.bind (bif r25.2
 then (Option.bind (a0q (x24.2.length + ([r25.1] : List Api_Box).length) 24) fun _ =>
 some (x24.2 ++ ([r25.1] : List Api_Box)))
 else (some x24.2)) fun b27 =>
 Option.bind (a1S x24.1 x21.2) fun r28 =>
 bif !r28.1
 then (some (.done (b27, r28.2)))
 else (some (.next (r28.2, b27)))
def a2O (n : Nat) (d : Int) (t : List (List Int)) (a2_2 : List (List Int)) (a3_3 : Int -> Option Bool) : Option (List Api_Box) :=
 Option.bind (bif decide (d < 0)
 then (some true)
 else (some (decide (4 < d)))) fun q1 =>
 Option.bind (bif q1
 then (some true)
 else (Option.bind (a2c d t) fun r2 =>
 some (!r2))) fun q3 =>
 Option.bind (bif q3
 then (some true)
 else (Option.bind (a2c d a2_2) fun r4 =>
 some (!r4))) fun q5 =>
 bif q5
 then (some ([]))
 else (Option.bind (a2N (a2_2.length : Int) (a2_2.length : Int) 24) fun m6 =>
 Option.bind (j5 (W3 a2_2 a3_3) ((a2_2.length : Int).toNat + 1) (0, List.replicate m6 ([] : List Int))) fun (b20 : Sum (Unit × List (List Int)) ((List Api_Box) × List (List Int))) =>
 w9 (fun x21 =>
 Option.bind (a2N (a2_2.length : Int) (a2_2.length : Int) 8) fun m23 =>
 Option.bind (j5 (a0E d t a2_2 x21) n (List.replicate m23 (0 : Int), [])) fun b29 =>
 some b29.1) (fun y22 =>
 some y22.1) b20)
def a3s (_ : Int) : Option Bool :=
 some true
def a1N (n : Nat) (width : Int) (pos : List (List Int)) (neg : List (List Int)) : Option (List Api_Box) :=
 Option.bind (a2O n width pos neg (fun z1 =>
 Option.bind (a3s z1) fun r2 =>
 some r2)) fun r3 =>
 some r3
def a54 : Option Val :=
 some (Val.mk 5 0 (⟨#[]⟩ : ByteArray) ([] : List Val) ([] : List Key) ([] : List Ent) ([] : List ByteArray))
def b0n (kind : Int) : Option (Value_used × Bool) :=
 Option.bind (bif kind == 1
 then (some (kind == 1))
 else (some (kind == 4))) fun b1 =>
 bif b1
 then (some (Value_used.mk true false false false false, true))
 else (Option.bind (bif kind == 2
 then (some (kind == 2))
 else (some (kind == 3))) fun b2 =>
 bif b2
 then (some (Value_used.mk false true false false false, true))
 else (bif kind == 5
 then (some (Value_used.mk false false false false false, true))
 else (Option.bind (bif kind == 6
 then (some (kind == 6))
 else (some (kind == 7))) fun b3 =>
 bif b3
 then (some (Value_used.mk false false true false false, true))
 else (bif kind == 8
 then (some (Value_used.mk false false true true false, true))
 else (bif kind == 9
 then (some (Value_used.mk true false false false true, true))
 else (some (Value_used.mk false false false false false, false)))))))
def a5a (l : List ByteArray) (compare : ByteArray -> ByteArray -> Option Int) (x1 : Int) : Option (Fl Int (Sum Unit Bool)) :=
 bif decide (x1 < (l.length : Int))
 then (Option.bind (idx l (wr .i64 (x1 - 1))) fun e2 =>
 Option.bind (idx l x1) fun e3 =>
 Option.bind (compare e2 e3) fun r4 =>
 bif decide (0 <= r4)
 then (some (.done (.inr false)))
 else (some (.next (wr .i64 (x1 + 1)))))
 else (some (.done (.inl ())))
def a2K (l : List ByteArray) (compare : ByteArray -> ByteArray -> Option Int) : Option Bool :=
 Option.bind (j5 (a5a l compare) ((l.length : Int).toNat + 1) 1) fun b5 =>
 w9 (fun _ =>
 some true) (fun y7 =>
 some y7) b5
def a00 (a : ByteArray) (b : ByteArray) : Option Int :=
 Option.bind (b5d a b) fun r1 =>
 some r1
def a02 (a : ByteArray) (b : ByteArray) : Option Int :=
 Option.bind (a00 a b) fun r1 =>
 some r1
def b0b (s : ByteArray) (other : Int -> Option Bool) (x5 : Int) : Option (Fl Int (Sum Unit Bool)) :=
 bif decide (x5 < (s.size : Int))
 then (Option.bind (b2Q s x5) fun e6 =>
 Option.bind (other (e6.toNat : Int)) fun r7 =>
 bif !r7
 then (some (.done (.inr false)))
 else (some (.next (wr .i64 (x5 + 1)))))
 else (some (.done (.inl ())))
def a5B (s : ByteArray) (first : Int -> Option Bool) (other : Int -> Option Bool) : Option Bool :=
 Option.bind (bif decide ((s.size : Int) < 1)
 then (some true)
 else (some (decide (16 < (s.size : Int))))) fun q1 =>
 Option.bind (bif q1
 then (some true)
 else (Option.bind (b2Q s 0) fun e2 =>
 Option.bind (first (e2.toNat : Int)) fun r3 =>
 some (!r3))) fun q4 =>
 bif q4
 then (some false)
 else (Option.bind (j5 (b0b s other) ((s.size : Int).toNat + 1) 1) fun b8 =>
 w9 (fun _ =>
 some true) (fun y10 =>
 some y10) b8)
def a4E (c : Int) : Option Bool :=
 Option.bind (bif decide (65 <= c)
 then (some (decide (c <= 90)))
 else (some false)) fun q1 =>
 some q1
def a2S (c : Int) : Option Bool :=
 Option.bind (bif decide (97 <= c)
 then (some (decide (c <= 122)))
 else (some false)) fun q1 =>
 some q1
def a4F (c : Int) : Option Bool :=
 Option.bind (bif decide (48 <= c)
 then (some (decide (c <= 57)))
 else (some false)) fun q1 =>
 some q1
def a4t (c : Int) : Option Bool :=
 Option.bind (a2S c) fun r1 =>
 Option.bind (bif r1
 then (some true)
 else (Option.bind (a4E c) fun r2 =>
 some r2)) fun q3 =>
 Option.bind (bif q3
 then (some true)
 else (Option.bind (a4F c) fun r4 =>
 some r4)) fun q5 =>
 Option.bind (bif q5
 then (some true)
 else (some (c == 95))) fun q6 =>
 some q6
def a2T (s : ByteArray) : Option Bool :=
 Option.bind (a5B s (fun z1 =>
 Option.bind (a4E z1) fun r2 =>
 some r2) (fun z3 =>
 Option.bind (a4t z3) fun r4 =>
 some r4)) fun r5 =>
 some r5
def a7r (l : List ByteArray) (x5 : Int) : Option (Fl Int (Sum Unit Bool)) :=
 bif decide (x5 < (l.length : Int))
 then (Option.bind (idx l x5) fun e6 =>
 Option.bind (a2T e6) fun r7 =>
 bif !r7
 then (some (.done (.inr false)))
 else (some (.next (wr .i64 (x5 + 1)))))
 else (some (.done (.inl ())))
def a40 (l : List ByteArray) : Option Bool :=
 Option.bind (a2K l (fun z1 z2 =>
 Option.bind (a02 z1 z2) fun r3 =>
 some r3)) fun r4 =>
 bif !r4
 then (some false)
 else (Option.bind (j5 (a7r l) ((l.length : Int).toNat + 1) 0) fun b8 =>
 w9 (fun _ =>
 some true) (fun y10 =>
 some y10) b8)
def a6O (c : Int) : Option Bool :=
 Option.bind (a2S c) fun r1 =>
 Option.bind (bif r1
 then (some true)
 else (Option.bind (a4F c) fun r2 =>
 some r2)) fun q3 =>
 Option.bind (bif q3
 then (some true)
 else (some (c == 95))) fun q4 =>
 some q4
def a3v (s : ByteArray) : Option Bool :=
 Option.bind (a5B s (fun z1 =>
 Option.bind (a2S z1) fun r2 =>
 some r2) (fun z3 =>
 Option.bind (a6O z3) fun r4 =>
 some r4)) fun r5 =>
 some r5
def a4P (l : List Key) (compare : Key -> Key -> Option Int) (x1 : Int) : Option (Fl Int (Sum Unit Bool)) :=
 bif decide (x1 < (l.length : Int))
 then (Option.bind (idx l (wr .i64 (x1 - 1))) fun e2 =>
 Option.bind (idx l x1) fun e3 =>
 Option.bind (compare e2 e3) fun r4 =>
 bif decide (0 <= r4)
 then (some (.done (.inr false)))
 else (some (.next (wr .i64 (x1 + 1)))))
 else (some (.done (.inl ())))
def a2q (l : List Key) (compare : Key -> Key -> Option Int) : Option Bool :=
 Option.bind (j5 (a4P l compare) ((l.length : Int).toNat + 1) 1) fun b5 =>
 w9 (fun _ =>
 some true) (fun y7 =>
 some y7) b5
def a4M (x : Int) : Option Bool :=
 some (x != x)
def X3 (x : Int) (y : Int) : Option Int :=
 Option.bind (a4M x) fun r1 =>
 Option.bind (a4M y) fun r2 =>
 bif r1
 then (bif r2
 then (some 0)
 else (some (-1)))
 else (bif r2
 then (some 1)
 else (bif decide (x < y)
 then (some (-1))
 else (bif decide (y < x)
 then (some 1)
 else (some 0))))
def a1f (a : Key) (b : Key) : Option Int :=
 Option.bind (X3 a.Kind b.Kind) fun r1 =>
 bif r1 != 0
 then (some r1)
 else (Option.bind (a02 a.Text b.Text) fun r2 =>
 some r2)
def a4d (k : Key) : Option Bool :=
 bif k.Kind == 0
 then (Option.bind (a3v k.Text) fun r1 =>
 some r1)
 else (bif k.Kind == 1
 then (some (decide ((k.Text.size : Int) <= 64)))
 else (some false))
def a9d (v : Val) (x6 : Int) : Option (Fl Int (Sum Unit Bool)) :=
 bif decide (x6 < (v.Keys.length : Int))
 then (Option.bind (idx v.Keys x6) fun e7 =>
 Option.bind (a4d e7) fun r8 =>
 bif !r8
 then (some (.done (.inr false)))
 else (some (.next (wr .i64 (x6 + 1)))))
 else (some (.done (.inl ())))
def a6R (v : Val) : Option Bool :=
 Option.bind (bif (v.Keys.length : Int) != (v.Kids.length : Int)
 then (some true)
 else (Option.bind (a2q v.Keys (fun z1 z2 =>
 Option.bind (a1f z1 z2) fun r3 =>
 some r3)) fun r4 =>
 some (!r4))) fun q5 =>
 bif q5
 then (some false)
 else (Option.bind (j5 (a9d v) ((v.Keys.length : Int).toNat + 1) 0) fun b9 =>
 w9 (fun _ =>
 some true) (fun y11 =>
 some y11) b9)
def a3Z (l : List Ent) (compare : Ent -> Ent -> Option Int) (x1 : Int) : Option (Fl Int (Sum Unit Bool)) :=
 bif decide (x1 < (l.length : Int))
 then (Option.bind (idx l (wr .i64 (x1 - 1))) fun e2 =>
 Option.bind (idx l x1) fun e3 =>
 Option.bind (compare e2 e3) fun r4 =>
 bif decide (0 <= r4)
 then (some (.done (.inr false)))
 else (some (.next (wr .i64 (x1 + 1)))))
 else (some (.done (.inl ())))
def a1W (l : List Ent) (compare : Ent -> Ent -> Option Int) : Option Bool :=
 Option.bind (j5 (a3Z l compare) ((l.length : Int).toNat + 1) 1) fun b5 =>
 w9 (fun _ =>
 some true) (fun y7 =>
 some y7) b5
def a3f (a : List Val) (b : List Val) (compare : Val -> Val -> Option Int) (x2 : Int) : Option (Fl Int (Sum Unit Int)) :=
 bif decide (x2 < (a.length : Int))
 then (Option.bind (idx a x2) fun e3 =>
 Option.bind (idx b x2) fun e4 =>
 Option.bind (compare e3 e4) fun r5 =>
 bif r5 != 0
 then (some (.done (.inr r5)))
 else (some (.next (wr .i64 (x2 + 1)))))
 else (some (.done (.inl ())))
def a1i (a : List Val) (b : List Val) (compare : Val -> Val -> Option Int) : Option Int :=
 Option.bind (X3 (a.length : Int) (b.length : Int)) fun r1 =>
 bif r1 != 0
 then (some r1)
 else (Option.bind (j5 (a3f a b compare) ((a.length : Int).toNat + 1) 0) fun b6 =>
 w9 (fun _ =>
 some 0) (fun y8 =>
 some y8) b6)
def a3C (x : Int) : Option Bool :=
 some (x != x)
def a4S (x : Int) (y : Int) : Option Int :=
 Option.bind (a3C x) fun r1 =>
 Option.bind (a3C y) fun r2 =>
 bif r1
 then (bif r2
 then (some 0)
 else (some (-1)))
 else (bif r2
 then (some 1)
 else (bif decide (x < y)
 then (some (-1))
 else (bif decide (y < x)
 then (some 1)
 else (some 0))))
def a3E (a : List Key) (b : List Key) (compare : Key -> Key -> Option Int) (x2 : Int) : Option (Fl Int (Sum Unit Int)) :=
 bif decide (x2 < (a.length : Int))
 then (Option.bind (idx a x2) fun e3 =>
 Option.bind (idx b x2) fun e4 =>
 Option.bind (compare e3 e4) fun r5 =>
 bif r5 != 0
 then (some (.done (.inr r5)))
 else (some (.next (wr .i64 (x2 + 1)))))
 else (some (.done (.inl ())))
def a1L (a : List Key) (b : List Key) (compare : Key -> Key -> Option Int) : Option Int :=
 Option.bind (X3 (a.length : Int) (b.length : Int)) fun r1 =>
 bif r1 != 0
 then (some r1)
 else (Option.bind (j5 (a3E a b compare) ((a.length : Int).toNat + 1) 0) fun b6 =>
 w9 (fun _ =>
 some 0) (fun y8 =>
 some y8) b6)
def a3i (a : List Ent) (b : List Ent) (compare : Ent -> Ent -> Option Int) (x2 : Int) : Option (Fl Int (Sum Unit Int)) :=
 bif decide (x2 < (a.length : Int))
 then (Option.bind (idx a x2) fun e3 =>
 Option.bind (idx b x2) fun e4 =>
 Option.bind (compare e3 e4) fun r5 =>
 bif r5 != 0
 then (some (.done (.inr r5)))
 else (some (.next (wr .i64 (x2 + 1)))))
 else (some (.done (.inl ())))
def a1o (a : List Ent) (b : List Ent) (compare : Ent -> Ent -> Option Int) : Option Int :=
 Option.bind (X3 (a.length : Int) (b.length : Int)) fun r1 =>
 bif r1 != 0
 then (some r1)
 else (Option.bind (j5 (a3i a b compare) ((a.length : Int).toNat + 1) 0) fun b6 =>
 w9 (fun _ =>
 some 0) (fun y8 =>
 some y8) b6)
def a4a (a : List ByteArray) (b : List ByteArray) (compare : ByteArray -> ByteArray -> Option Int) (x2 : Int) : Option (Fl Int (Sum Unit Int)) :=
 bif decide (x2 < (a.length : Int))
 then (Option.bind (idx a x2) fun e3 =>
 Option.bind (idx b x2) fun e4 =>
 Option.bind (compare e3 e4) fun r5 =>
 bif r5 != 0
 then (some (.done (.inr r5)))
 else (some (.next (wr .i64 (x2 + 1)))))
 else (some (.done (.inl ())))
def a1T (a : List ByteArray) (b : List ByteArray) (compare : ByteArray -> ByteArray -> Option Int) : Option Int :=
 Option.bind (X3 (a.length : Int) (b.length : Int)) fun r1 =>
 bif r1 != 0
 then (some r1)
 else (Option.bind (j5 (a4a a b compare) ((a.length : Int).toNat + 1) 0) fun b6 =>
 w9 (fun _ =>
 some 0) (fun y8 =>
 some y8) b6)
def a95 (_ : Nat) (_ : Val -> Val -> Option Int) (rec_value_compareEntries : Ent -> Ent -> Option Int) (rec_value_compareValues : (List Val) -> (List Val) -> Option Int) (a : Val) (b : Val) : Option Int :=
 Option.bind (X3 a.Kind b.Kind) fun r1 =>
 bif r1 != 0
 then (some r1)
 else (Option.bind (a4S a.Int_ b.Int_) fun r2 =>
 bif r2 != 0
 then (some r2)
 else (Option.bind (a02 a.Text b.Text) fun r3 =>
 bif r3 != 0
 then (some r3)
 else (Option.bind (a1L a.Keys b.Keys (fun z4 z5 =>
 Option.bind (a1f z4 z5) fun r6 =>
 some r6)) fun r7 =>
 bif r7 != 0
 then (some r7)
 else (Option.bind (rec_value_compareValues a.Kids b.Kids) fun r8 =>
 bif r8 != 0
 then (some r8)
 else (Option.bind (a1o a.Entries b.Entries (fun z9 z10 =>
 Option.bind (rec_value_compareEntries z9 z10) fun r11 =>
 some r11)) fun r12 =>
 bif r12 != 0
 then (some r12)
 else (Option.bind (a1T a.Labels b.Labels (fun z13 z14 =>
 Option.bind (a02 z13 z14) fun r15 =>
 some r15)) fun r16 =>
 some r16))))))
def a6l (_ : Nat) (rec_value_Compare : Val -> Val -> Option Int) (_ : Ent -> Ent -> Option Int) (rec_value_compareValues : (List Val) -> (List Val) -> Option Int) (a : Ent) (b : Ent) : Option Int :=
 Option.bind (rec_value_compareValues a.Args b.Args) fun r1 =>
 bif r1 != 0
 then (some r1)
 else (bif a.Fails != b.Fails
 then (bif a.Fails
 then (some (-1))
 else (some 1))
 else (Option.bind (rec_value_Compare a.Result b.Result) fun r2 =>
 some r2))
def a6X (_ : Nat) (rec_value_Compare : Val -> Val -> Option Int) (_ : Ent -> Ent -> Option Int) (_ : (List Val) -> (List Val) -> Option Int) (a : List Val) (b : List Val) : Option Int :=
 Option.bind (a1i a b (fun z1 z2 =>
 Option.bind (rec_value_Compare z1 z2) fun r3 =>
 some r3)) fun r4 =>
 some r4
def Z9 : Nat -> (Val -> Val -> Option Int) × (Ent -> Ent -> Option Int) × ((List Val) -> (List Val) -> Option Int)
 | 0 => (fun _ _ => none, fun _ _ => none, fun _ _ => none)
 | n + 1 => (a95 n ((Z9 n).1) ((Z9 n).2.1) ((Z9 n).2.2), a6l n ((Z9 n).1) ((Z9 n).2.1) ((Z9 n).2.2), a6X n ((Z9 n).1) ((Z9 n).2.1) ((Z9 n).2.2))
def a7I (n : Nat) : Val -> Val -> Option Int := (Z9 n).1
def a3y (n : Nat) : Ent -> Ent -> Option Int := (Z9 n).2.1
def a7Q (n : Nat) : (List Val) -> (List Val) -> Option Int := (Z9 n).2.2
def a9m (n : Nat) (a : Val) (b : Val) : Option Bool :=
 Option.bind (a7I n a b) fun r1 =>
 some (r1 == 0)
def a8h (n : Nat) (v : Val) : Option Bool :=
 Option.bind (a9m n v (Val.mk 0 0 (⟨#[]⟩ : ByteArray) ([] : List Val) ([] : List Key) ([] : List Ent) ([] : List ByteArray))) fun r1 =>
 some r1
def a5k (n : Nat) (e : Ent) (arity : Int) : Option Bool :=
 Option.bind (bif (e.Args.length : Int) == arity
 then (Option.bind (bif !e.Fails
 then (some true)
 else (Option.bind (a8h n e.Result) fun r1 =>
 some r1)) fun q2 =>
 some q2)
 else (some false)) fun q3 =>
 some q3
def a6j (v : Val) (n : Nat) (x7 : Int) : Option (Fl Int (Sum Unit Bool)) :=
 bif decide (x7 < (v.Entries.length : Int))
 then (Option.bind (idx v.Entries x7) fun e8 =>
 Option.bind (a5k n e8 v.Int_) fun r9 =>
 bif !r9
 then (some (.done (.inr false)))
 else (some (.next (wr .i64 (x7 + 1)))))
 else (some (.done (.inl ())))
def a3K (n : Nat) (v : Val) : Option Bool :=
 Option.bind (bif decide (v.Int_ < 0)
 then (some true)
 else (some (decide (4 < v.Int_)))) fun q1 =>
 Option.bind (bif q1
 then (some true)
 else (Option.bind (a1W v.Entries (fun z2 z3 =>
 Option.bind (a3y n z2 z3) fun r4 =>
 some r4)) fun r5 =>
 some (!r5))) fun q6 =>
 bif q6
 then (some false)
 else (Option.bind (j5 (a6j v n) ((v.Entries.length : Int).toNat + 1) 0) fun b10 =>
 w9 (fun _ =>
 some true) (fun y12 =>
 some y12) b10)
def a5X (n : Nat) (d : Val) : Option Bool :=
 Option.bind (b0n d.Kind) fun r1 =>
 Option.bind (bif !r1.2
 then (some true)
 else (Option.bind (a40 d.Labels) fun r2 =>
 some (!r2))) fun q3 =>
 bif q3
 then (some false)
 else (Option.bind (bif !r1.1.number
 then (some (d.Int_ != 0))
 else (some false)) fun q4 =>
 Option.bind (bif q4
 then (some true)
 else (Option.bind (bif !r1.1.text_
 then (some (!(a0j d.Text (⟨#[]⟩ : ByteArray))))
 else (some false)) fun q5 =>
 some q5)) fun q6 =>
 Option.bind (bif q6
 then (some true)
 else (Option.bind (bif !r1.1.kids
 then (some (decide (0 < (d.Kids.length : Int))))
 else (some false)) fun q7 =>
 some q7)) fun q8 =>
 Option.bind (bif q8
 then (some true)
 else (Option.bind (bif !r1.1.keys
 then (some (decide (0 < (d.Keys.length : Int))))
 else (some false)) fun q9 =>
 some q9)) fun q10 =>
 Option.bind (bif q10
 then (some true)
 else (Option.bind (bif !r1.1.entries
 then (some (decide (0 < (d.Entries.length : Int))))
 else (some false)) fun q11 =>
 some q11)) fun q12 =>
 bif q12
 then (some false)
 else (bif d.Kind == 2
 then (some (decide ((d.Text.size : Int) <= 64)))
 else (bif d.Kind == 3
 then (Option.bind (a3v d.Text) fun r13 =>
 some r13)
 else (bif d.Kind == 4
 then (some (decide (0 <= d.Int_)))
 else (bif d.Kind == 6
 then (some (decide ((d.Kids.length : Int) <= 4)))
 else (bif d.Kind == 7
 then (Option.bind (bif (d.Kids.length : Int) == 2
 then (Option.bind (idx d.Kids 1) fun e14 =>
 Option.bind (bif e14.Kind == 5
 then (some true)
 else (Option.bind (idx d.Kids 1) fun e15 =>
 some (e15.Kind == 7))) fun q16 =>
 some q16)
 else (some false)) fun q17 =>
 some q17)
 else (bif d.Kind == 8
 then (Option.bind (a6R d) fun r18 =>
 some r18)
 else (bif d.Kind == 9
 then (Option.bind (a3K n d) fun r19 =>
 some r19)
 else (some true)))))))))
def b1x (v : Val) (x2 : (List Val) × Int) : Option (Fl ((List Val) × Int) (List Val)) :=
 bif decide (x2.2 < (v.Entries.length : Int))
 then (Option.bind (idx v.Entries x2.2) fun e3 =>
 Option.bind (a0q (x2.1.length + e3.Args.length) 128) fun _ =>
 bif !e3.Fails
 then (Option.bind (a0q ((x2.1 ++ e3.Args).length + ([e3.Result] : List Val).length) 128) fun _ =>
 some (.next ((x2.1 ++ e3.Args) ++ ([e3.Result] : List Val), wr .i64 (x2.2 + 1))))
 else (some (.next (x2.1 ++ e3.Args, wr .i64 (x2.2 + 1)))))
 else (some (.done x2.1))
def a9o (v : Val) : Option (List Val) :=
 Option.bind (a2d 128 v.Kids) fun r1 =>
 Option.bind (j5 (b1x v) ((v.Entries.length : Int).toNat + 1) (r1, 0)) fun b6 =>
 some b6
def a8l (r2 : List Val) (rec_value_validTree : Val -> Option Bool) (x3 : Int) : Option (Fl Int (Sum Unit Bool)) :=
 bif decide (x3 < (r2.length : Int))
 then (Option.bind (idx r2 x3) fun e4 =>
 Option.bind (rec_value_validTree e4) fun r5 =>
 bif !r5
 then (some (.done (.inr false)))
 else (some (.next (wr .i64 (x3 + 1)))))
 else (some (.done (.inl ())))
def a8Y (n : Nat) (rec_value_validTree : Val -> Option Bool) (v : Val) : Option Bool :=
 Option.bind (a5X n v) fun r1 =>
 bif !r1
 then (some false)
 else (Option.bind (a9o v) fun r2 =>
 Option.bind (j5 (a8l r2 rec_value_validTree) ((r2.length : Int).toNat + 1) 0) fun b6 =>
 w9 (fun _ =>
 some true) (fun y8 =>
 some y8) b6)
def a3A : Nat -> Val -> Option Bool
 | 0 => fun _ => none
 | n + 1 => a8Y n (a3A n)
def a6L (n : Nat) (v : Val) : Option Int :=
 Option.bind (a3A n v) fun r1 =>
 bif !r1
 then (some 1)
 else (some 0)
def a4v (d : Api_TypeNode) : Option Bool :=
 Option.bind (bif d.Kind == 3
 then (some (true, false, false, false))
 else (Option.bind (bif d.Kind == 4
 then (some (d.Kind == 4))
 else (bif d.Kind == 6
 then (some (d.Kind == 6))
 else (some (d.Kind == 19)))) fun b1 =>
 bif b1
 then (some (false, true, false, false))
 else (Option.bind (bif d.Kind == 10
 then (some (d.Kind == 10))
 else (bif d.Kind == 12
 then (some (d.Kind == 12))
 else (bif d.Kind == 14
 then (some (d.Kind == 14))
 else (bif d.Kind == 16
 then (some (d.Kind == 16))
 else (bif d.Kind == 17
 then (some (d.Kind == 17))
 else (some (d.Kind == 18))))))) fun b2 =>
 bif b2
 then (some (false, false, true, false))
 else (bif d.Kind == 13
 then (some (false, false, false, true))
 else (some (false, false, false, false)))))) fun b3 =>
 Option.bind (bif b3.1
 then (some true)
 else (Option.bind (bif d.Lo == 0
 then (some (d.Hi == 0))
 else (some false)) fun q4 =>
 some q4)) fun q5 =>
 Option.bind (bif q5
 then (Option.bind (bif b3.2.1
 then (some true)
 else (some (a0j d.Text (⟨#[]⟩ : ByteArray)))) fun q6 =>
 some q6)
 else (some false)) fun q7 =>
 Option.bind (bif q7
 then (Option.bind (bif b3.2.2.1
 then (some true)
 else (some ((d.Kids.length : Int) == 0))) fun q8 =>
 some q8)
 else (some false)) fun q9 =>
 Option.bind (bif q9
 then (Option.bind (bif b3.2.2.2
 then (some true)
 else (Option.bind (bif (d.Fields.length : Int) == 0
 then (some (b0d d.Rest (0, 0)))
 else (some false)) fun q10 =>
 some q10)) fun q11 =>
 some q11)
 else (some false)) fun q12 =>
 some q12
def a5L (l : List Api_Field) (x1 : Int) : Option (Fl Int (Sum Unit Bool)) :=
 bif decide (x1 < (l.length : Int))
 then (Option.bind (idx l x1) fun e2 =>
 Option.bind (a4d e2.Key_) fun r3 =>
 Option.bind (bif !r3
 then (some true)
 else (Option.bind (bif decide (0 < x1)
 then (Option.bind (idx l (wr .i64 (x1 - 1))) fun e4 =>
 Option.bind (a1f e4.Key_ e2.Key_) fun r5 =>
 some (decide (0 <= r5)))
 else (some false)) fun q6 =>
 some q6)) fun q7 =>
 bif q7
 then (some (.done (.inr false)))
 else (some (.next (wr .i64 (x1 + 1)))))
 else (some (.done (.inl ())))
def a3q (l : List Api_Field) : Option Bool :=
 Option.bind (j5 (a5L l) ((l.length : Int).toNat + 1) 0) fun b8 =>
 w9 (fun _ =>
 some true) (fun y10 =>
 some y10) b8
def a4o (d : Api_TypeNode) : Option Bool :=
 Option.bind (bif d.Kind == 1
 then (some (d.Kind == 1))
 else (bif d.Kind == 2
 then (some (d.Kind == 2))
 else (bif d.Kind == 5
 then (some (d.Kind == 5))
 else (bif d.Kind == 7
 then (some (d.Kind == 7))
 else (bif d.Kind == 8
 then (some (d.Kind == 8))
 else (bif d.Kind == 9
 then (some (d.Kind == 9))
 else (bif d.Kind == 11
 then (some (d.Kind == 11))
 else (some (d.Kind == 15))))))))) fun b1 =>
 bif b1
 then (some true)
 else (bif d.Kind == 3
 then (some (decide (d.Lo <= d.Hi)))
 else (bif d.Kind == 4
 then (some (decide ((d.Text.size : Int) <= 64)))
 else (bif d.Kind == 6
 then (Option.bind (a3v d.Text) fun r2 =>
 some r2)
 else (bif d.Kind == 19
 then (Option.bind (a2T d.Text) fun r3 =>
 some r3)
 else (bif d.Kind == 10
 then (some (decide ((d.Kids.length : Int) <= 4)))
 else (bif d.Kind == 12
 then (some ((d.Kids.length : Int) == 2))
 else (bif d.Kind == 13
 then (Option.bind (a3q d.Fields) fun r4 =>
 some r4)
 else (bif d.Kind == 14
 then (Option.bind (bif decide (1 <= (d.Kids.length : Int))
 then (some (decide ((d.Kids.length : Int) <= 5)))
 else (some false)) fun q5 =>
 some q5)
 else (Option.bind (bif d.Kind == 16
 then (some (d.Kind == 16))
 else (some (d.Kind == 17))) fun b6 =>
 bif b6
 then (some (decide (1 <= (d.Kids.length : Int))))
 else (bif d.Kind == 18
 then (some ((d.Kids.length : Int) == 1))
 else (some false)))))))))))
def a88 (n_0 : Api_TypeNode) (x2 : (List Int) × Int) : Option (Fl ((List Int) × Int) (List Int)) :=
 bif decide (x2.2 < (n_0.Fields.length : Int))
 then (Option.bind (idx n_0.Fields x2.2) fun e3 =>
 Option.bind (a0q (x2.1.length + ([e3.Node] : List Int).length) 8) fun _ =>
 some (.next (x2.1 ++ ([e3.Node] : List Int), wr .i64 (x2.2 + 1))))
 else (some (.done x2.1))
def a6V (n_0 : Api_TypeNode) : Option (List Int) :=
 Option.bind (a2d 8 n_0.Kids) fun r1 =>
 Option.bind (j5 (a88 n_0) ((n_0.Fields.length : Int).toNat + 1) (r1, 0)) fun b5 =>
 bif n_0.Kind == 13
 then (Option.bind (a0q (b5.length + ([n_0.Rest.1, n_0.Rest.2] : List Int).length) 8) fun _ =>
 some (b5 ++ ([n_0.Rest.1, n_0.Rest.2] : List Int)))
 else (some b5)
def a4q (kind : Int) : Option Bool :=
 Option.bind (bif kind == 16
 then (some true)
 else (some (kind == 17))) fun q1 =>
 Option.bind (bif q1
 then (some true)
 else (some (kind == 18))) fun q2 =>
 some q2
def a41 (a2_2 : Api_Type) (e10 : Api_TypeNode) (rec_typeexpr_contractive_1 : Int -> (List Int) -> Api_Type -> Unit -> Option (Bool × (List Int))) (x11 : Int × (List Int)) : Option (Fl (Int × (List Int)) (Sum (List Int) (Bool × (List Int)))) :=
 bif decide (x11.1 < (e10.Kids.length : Int))
 then (Option.bind (idx e10.Kids x11.1) fun e12 =>
 Option.bind (rec_typeexpr_contractive_1 e12 x11.2 a2_2 ()) fun r13 =>
 bif !r13.1
 then (some (.done (.inr (false, r13.2))))
 else (some (.next (wr .i64 (x11.1 + 1), r13.2))))
 else (some (.done (.inl x11.2)))
def a5A (_ : Nat) (rec_typeexpr_contractive_1 : Int -> (List Int) -> Api_Type -> Unit -> Option (Bool × (List Int))) (i : Int) (a1_1 : List Int) (a2_2 : Api_Type) (_ : Unit) : Option (Bool × (List Int)) :=
 Option.bind (idx a1_1 i) fun _ =>
 Option.bind (a1_1[i.toNat]?) fun e2 =>
 Option.bind (bif e2 != 0
 then (some true)
 else (Option.bind (idx a2_2.Nodes i) fun e3 =>
 Option.bind (a4q e3.Kind) fun r4 =>
 some (!r4))) fun q5 =>
 bif q5
 then (Option.bind (idx a1_1 i) fun _ =>
 Option.bind (a1_1[i.toNat]?) fun e7 =>
 some (e7 != 1, a1_1))
 else (Option.bind (idx a1_1 i) fun _ =>
 Option.bind (a1_1[i.toNat]?) fun _ =>
 Option.bind (idx a2_2.Nodes i) fun e10 =>
 Option.bind (j5 (a41 a2_2 e10 rec_typeexpr_contractive_1) ((e10.Kids.length : Int).toNat + 1) (0, a1_1.set i.toNat 1)) fun (b14 : Sum (List Int) (Bool × (List Int))) =>
 w9 (fun x15 =>
 Option.bind (idx x15 i) fun _ =>
 Option.bind (x15[i.toNat]?) fun _ =>
 some (true, x15.set i.toNat 2)) (fun y16 =>
 some (y16.1, y16.2)) b14)
def a08 : Nat -> Int -> (List Int) -> Api_Type -> Unit -> Option (Bool × (List Int))
 | 0 => fun _ _ _ _ => none
 | n + 1 => a5A n (a08 n)
def a5P (t : Api_Type) (n : Nat) (x2 : Int × (List Int)) : Option (Fl (Int × (List Int)) (Sum (List Int) (Bool × (List Int)))) :=
 bif decide (x2.1 < (t.Nodes.length : Int))
 then (Option.bind (a08 n x2.1 x2.2 t ()) fun r3 =>
 bif !r3.1
 then (some (.done (.inr (false, r3.2))))
 else (some (.next (wr .i64 (x2.1 + 1), r3.2))))
 else (some (.done (.inl x2.2)))
def a3m (n : Nat) (t : Api_Type) : Option Bool :=
 Option.bind (a2N (t.Nodes.length : Int) (t.Nodes.length : Int) 8) fun m1 =>
 Option.bind (j5 (a5P t n) ((t.Nodes.length : Int).toNat + 1) (0, List.replicate m1 (0 : Int))) fun (b4 : Sum (List Int) (Bool × (List Int))) =>
 w9 (fun _ =>
 some true) (fun y6 =>
 some y6.1) b4
def a6k (t : Api_Type) (r7 : List Int) (x8 : Int) : Option (Fl Int (Sum Unit Int)) :=
 bif decide (x8 < (r7.length : Int))
 then (Option.bind (idx r7 x8) fun e9 =>
 Option.bind (bif decide (e9 < 0)
 then (some true)
 else (some (decide ((t.Nodes.length : Int) <= e9)))) fun q10 =>
 bif q10
 then (some (.done (.inr 1)))
 else (some (.next (wr .i64 (x8 + 1)))))
 else (some (.done (.inl ())))
def a6d (t : Api_Type) (x2 : Int) : Option (Fl Int (Sum Unit Int)) :=
 bif decide (x2 < (t.Nodes.length : Int))
 then (Option.bind (idx t.Nodes x2) fun e3 =>
 Option.bind (a4v e3) fun r4 =>
 Option.bind (bif !r4
 then (some true)
 else (Option.bind (a4o e3) fun r5 =>
 some (!r5))) fun q6 =>
 bif q6
 then (some (.done (.inr 1)))
 else (Option.bind (a6V e3) fun r7 =>
 Option.bind (j5 (a6k t r7) ((r7.length : Int).toNat + 1) 0) fun b11 =>
 w9 (fun _ =>
 some (.next (wr .i64 (x2 + 1)))) (fun y13 =>
 some (.done (.inr y13))) b11))
 else (some (.done (.inl ())))
def a3P (n : Nat) (t : Api_Type) : Option Int :=
 Option.bind (bif decide (t.Root < 0)
 then (some true)
 else (some (decide ((t.Nodes.length : Int) <= t.Root)))) fun q1 =>
 bif q1
 then (some 1)
 else (Option.bind (j5 (a6d t) ((t.Nodes.length : Int).toNat + 1) 0) fun b14 =>
 w9 (fun _ =>
 Option.bind (a3m n t) fun r17 =>
 bif !r17
 then (some 3)
 else (some 0)) (fun y16 =>
 some y16) b14)
def b1v (t : Api_Type) (g : Api_Goal) (r1 : List Int) (x3 : Int) : Option (Fl Int (Sum Unit Bool)) :=
 bif decide (x3 < ((r1 ++ g.Neg).length : Int))
 then (Option.bind (idx (r1 ++ g.Neg) x3) fun e4 =>
 Option.bind (bif decide (e4 < 0)
 then (some true)
 else (some (decide ((t.Nodes.length : Int) <= e4)))) fun q5 =>
 bif q5
 then (some (.done (.inr false)))
 else (some (.next (wr .i64 (x3 + 1)))))
 else (some (.done (.inl ())))
def a9e (t : Api_Type) (g : Api_Goal) : Option Bool :=
 Option.bind (a2d 8 g.Pos) fun r1 =>
 Option.bind (a0q (r1.length + g.Neg.length) 8) fun _ =>
 Option.bind (j5 (b1v t g r1) (((r1 ++ g.Neg).length : Int).toNat + 1) 0) fun b6 =>
 w9 (fun _ =>
 some true) (fun y8 =>
 some y8) b6
def a9i (kind : Int) : Option Int :=
 bif kind == 5
 then (some 2)
 else (bif kind == 7
 then (some 3)
 else (bif kind == 8
 then (some 4)
 else (bif kind == 9
 then (some 5)
 else (bif kind == 11
 then (some 6)
 else (some 9)))))
def a3e (s : List Key) (v : Key) (x1 : Int) : Option (Fl Int (Sum Unit Int)) :=
 bif decide (x1 < (s.length : Int))
 then (Option.bind (idx s x1) fun e2 =>
 bif a6A v e2
 then (some (.done (.inr x1)))
 else (some (.next (wr .i64 (x1 + 1)))))
 else (some (.done (.inl ())))
def a1g (s : List Key) (v : Key) : Option Int :=
 Option.bind (j5 (a3e s v) ((s.length : Int).toNat + 1) 0) fun b3 =>
 w9 (fun _ =>
 some (-1)) (fun y5 =>
 some y5) b3
def a0Q (s : List Key) (v : Key) : Option Bool :=
 Option.bind (a1g s v) fun r1 =>
 some (decide (0 <= r1))
def b4D (n_0 : Api_TypeNode) (k : Key) (x1 : Int) : Option (Fl Int (Sum Unit Int)) :=
 bif decide (x1 < (n_0.Fields.length : Int))
 then (Option.bind (idx n_0.Fields x1) fun e2 =>
 bif a6A e2.Key_ k
 then (some (.done (.inr e2.Node)))
 else (some (.next (wr .i64 (x1 + 1)))))
 else (some (.done (.inl ())))
def b4d (n_0 : Api_TypeNode) (k : Key) : Option Int :=
 Option.bind (j5 (b4D n_0 k) ((n_0.Fields.length : Int).toNat + 1) 0) fun b3 =>
 w9 (fun _ =>
 bif k.Kind == 0
 then (some n_0.Rest.1)
 else (bif k.Kind == 1
 then (some n_0.Rest.2)
 else (none))) (fun y5 =>
 some y5) b3
def a3I (s : List ByteArray) (v : ByteArray) (x1 : Int) : Option (Fl Int (Sum Unit Int)) :=
 bif decide (x1 < (s.length : Int))
 then (Option.bind (idx s x1) fun e2 =>
 bif a0j v e2
 then (some (.done (.inr x1)))
 else (some (.next (wr .i64 (x1 + 1)))))
 else (some (.done (.inl ())))
def a1M (s : List ByteArray) (v : ByteArray) : Option Int :=
 Option.bind (j5 (a3I s v) ((s.length : Int).toNat + 1) 0) fun b3 =>
 w9 (fun _ =>
 some (-1)) (fun y5 =>
 some y5) b3
def a09 (s : List ByteArray) (v : ByteArray) : Option Bool :=
 Option.bind (a1M s v) fun r1 =>
 some (decide (0 <= r1))
def b3N (l : List Val) (t : Api_Type) (nodes : List Int) (rec_core_Has : Val -> Api_Type -> Int -> Option Bool) (x1 : Int) : Option (Fl Int (Sum Unit Bool)) :=
 bif decide (x1 < (l.length : Int))
 then (Option.bind (idx l x1) fun e2 =>
 Option.bind (idx nodes x1) fun e3 =>
 Option.bind (rec_core_Has e2 t e3) fun r4 =>
 bif !r4
 then (some (.done (.inr false)))
 else (some (.next (wr .i64 (x1 + 1)))))
 else (some (.done (.inl ())))
def a7R (v : Val) (t : Api_Type) (n_2 : Api_TypeNode) (rec_core_EntryAllowed : Ent -> Api_Type -> Api_TypeNode -> Option Bool) (x1 : Int) : Option (Fl Int (Sum Unit Bool)) :=
 bif decide (x1 < (v.Entries.length : Int))
 then (Option.bind (idx v.Entries x1) fun e2 =>
 Option.bind (rec_core_EntryAllowed e2 t n_2) fun r3 =>
 bif !r3
 then (some (.done (.inr false)))
 else (some (.next (wr .i64 (x1 + 1)))))
 else (some (.done (.inl ())))
def b0W (v : Val) (n_2 : Api_TypeNode) (x1 : Int) : Option (Fl Int (Sum Unit Bool)) :=
 bif decide (x1 < (n_2.Fields.length : Int))
 then (Option.bind (idx n_2.Fields x1) fun e2 =>
 Option.bind (bif !e2.Optional
 then (Option.bind (a0Q v.Keys e2.Key_) fun r3 =>
 some (!r3))
 else (some false)) fun q4 =>
 bif q4
 then (some (.done (.inr false)))
 else (some (.next (wr .i64 (x1 + 1)))))
 else (some (.done (.inl ())))
def b0Z (v : Val) (t : Api_Type) (n_2 : Api_TypeNode) (rec_core_Has : Val -> Api_Type -> Int -> Option Bool) (x8 : Int) : Option (Fl Int (Sum Unit Bool)) :=
 bif decide (x8 < (v.Keys.length : Int))
 then (Option.bind (idx v.Keys x8) fun e9 =>
 Option.bind (idx v.Kids x8) fun e10 =>
 Option.bind (b4d n_2 e9) fun r11 =>
 Option.bind (rec_core_Has e10 t r11) fun r12 =>
 bif !r12
 then (some (.done (.inr false)))
 else (some (.next (wr .i64 (x8 + 1)))))
 else (some (.done (.inl ())))
def b4V (_ : Nat) (_ : (List Val) -> Api_Type -> (List Int) -> Option Bool) (_ : Ent -> Api_Type -> Api_TypeNode -> Option Bool) (_ : Val -> Api_Type -> Api_TypeNode -> Option Bool) (rec_core_Has : Val -> Api_Type -> Int -> Option Bool) (_ : Int -> Val -> Api_Type -> Option Bool) (_ : Int -> Val -> Api_Type -> Option Bool) (_ : Val -> Api_Type -> Api_TypeNode -> Option Bool) (l : List Val) (t : Api_Type) (nodes : List Int) : Option Bool :=
 bif (l.length : Int) != (nodes.length : Int)
 then (some false)
 else (Option.bind (j5 (b3N l t nodes rec_core_Has) ((l.length : Int).toNat + 1) 0) fun b5 =>
 w9 (fun _ =>
 some true) (fun y7 =>
 some y7) b5)
def a7L (_ : Nat) (rec_core_all : (List Val) -> Api_Type -> (List Int) -> Option Bool) (_ : Ent -> Api_Type -> Api_TypeNode -> Option Bool) (_ : Val -> Api_Type -> Api_TypeNode -> Option Bool) (rec_core_Has : Val -> Api_Type -> Int -> Option Bool) (_ : Int -> Val -> Api_Type -> Option Bool) (_ : Int -> Val -> Api_Type -> Option Bool) (_ : Val -> Api_Type -> Api_TypeNode -> Option Bool) (e : Ent) (t : Api_Type) (n_2 : Api_TypeNode) : Option Bool :=
 Option.bind (cut n_2.Kids 0 (wr .i64 ((n_2.Kids.length : Int) - 1))) fun y1 =>
 Option.bind (rec_core_all e.Args t y1) fun r2 =>
 Option.bind (bif !r2
 then (some true)
 else (Option.bind (bif !e.Fails
 then (Option.bind (idx n_2.Kids (wr .i64 ((n_2.Kids.length : Int) - 1))) fun e3 =>
 Option.bind (rec_core_Has e.Result t e3) fun r4 =>
 some r4)
 else (some false)) fun q5 =>
 some q5)) fun q6 =>
 some q6
def a7U (_ : Nat) (_ : (List Val) -> Api_Type -> (List Int) -> Option Bool) (rec_core_EntryAllowed : Ent -> Api_Type -> Api_TypeNode -> Option Bool) (_ : Val -> Api_Type -> Api_TypeNode -> Option Bool) (_ : Val -> Api_Type -> Int -> Option Bool) (_ : Int -> Val -> Api_Type -> Option Bool) (_ : Int -> Val -> Api_Type -> Option Bool) (_ : Val -> Api_Type -> Api_TypeNode -> Option Bool) (v : Val) (t : Api_Type) (n_2 : Api_TypeNode) : Option Bool :=
 bif v.Int_ != (wr .i64 ((n_2.Kids.length : Int) - 1))
 then (some false)
 else (Option.bind (j5 (a7R v t n_2 rec_core_EntryAllowed) ((v.Entries.length : Int).toNat + 1) 0) fun b4 =>
 w9 (fun _ =>
 some true) (fun y6 =>
 some y6) b4)
def b5i (_ : Nat) (rec_core_all : (List Val) -> Api_Type -> (List Int) -> Option Bool) (_ : Ent -> Api_Type -> Api_TypeNode -> Option Bool) (rec_core_functionHas : Val -> Api_Type -> Api_TypeNode -> Option Bool) (rec_core_Has : Val -> Api_Type -> Int -> Option Bool) (rec_core_Has_1 : Int -> Val -> Api_Type -> Option Bool) (rec_core_Has_2 : Int -> Val -> Api_Type -> Option Bool) (rec_core_mapHas : Val -> Api_Type -> Api_TypeNode -> Option Bool) (d : Val) (t : Api_Type) (a2_2 : Int) : Option Bool :=
 Option.bind (idx t.Nodes a2_2) fun e1 =>
 bif e1.Kind == 2
 then (some true)
 else (bif e1.Kind == 3
 then (Option.bind (bif d.Kind == 1
 then (some (decide (e1.Lo <= d.Int_)))
 else (some false)) fun q2 =>
 Option.bind (bif q2
 then (some (decide (d.Int_ <= e1.Hi)))
 else (some false)) fun q3 =>
 some q3)
 else (bif e1.Kind == 4
 then (Option.bind (bif d.Kind == 2
 then (some (a0j d.Text e1.Text))
 else (some false)) fun q4 =>
 some q4)
 else (bif e1.Kind == 6
 then (Option.bind (bif d.Kind == 3
 then (some (a0j d.Text e1.Text))
 else (some false)) fun q5 =>
 some q5)
 else (Option.bind (bif e1.Kind == 5
 then (some (e1.Kind == 5))
 else (bif e1.Kind == 7
 then (some (e1.Kind == 7))
 else (bif e1.Kind == 8
 then (some (e1.Kind == 8))
 else (bif e1.Kind == 9
 then (some (e1.Kind == 9))
 else (bif e1.Kind == 11
 then (some (e1.Kind == 11))
 else (some (e1.Kind == 15))))))) fun b6 =>
 bif b6
 then (Option.bind (a9i e1.Kind) fun r7 =>
 some (d.Kind == r7))
 else (bif e1.Kind == 10
 then (Option.bind (bif d.Kind == 6
 then (Option.bind (rec_core_all d.Kids t e1.Kids) fun r8 =>
 some r8)
 else (some false)) fun q9 =>
 some q9)
 else (bif e1.Kind == 12
 then (Option.bind (bif d.Kind == 7
 then (Option.bind (rec_core_all d.Kids t e1.Kids) fun r10 =>
 some r10)
 else (some false)) fun q11 =>
 some q11)
 else (bif e1.Kind == 13
 then (Option.bind (bif d.Kind == 8
 then (Option.bind (rec_core_mapHas d t e1) fun r12 =>
 some r12)
 else (some false)) fun q13 =>
 some q13)
 else (bif e1.Kind == 14
 then (Option.bind (bif d.Kind == 9
 then (Option.bind (rec_core_functionHas d t e1) fun r14 =>
 some r14)
 else (some false)) fun q15 =>
 some q15)
 else (bif e1.Kind == 16
 then (Option.bind (Z3 e1.Kids (fun z16 =>
 Option.bind (rec_core_Has_1 z16 d t) fun r17 =>
 some r17)) fun r18 =>
 some r18)
 else (bif e1.Kind == 17
 then (Option.bind (Z3 e1.Kids (fun z19 =>
 Option.bind (rec_core_Has_2 z19 d t) fun r20 =>
 some r20)) fun r21 =>
 some (!r21))
 else (bif e1.Kind == 18
 then (Option.bind (idx e1.Kids 0) fun e22 =>
 Option.bind (rec_core_Has d t e22) fun r23 =>
 some (!r23))
 else (bif e1.Kind == 19
 then (Option.bind (a09 d.Labels e1.Text) fun r24 =>
 some r24)
 else (some false)))))))))))))
def b2J (_ : Nat) (_ : (List Val) -> Api_Type -> (List Int) -> Option Bool) (_ : Ent -> Api_Type -> Api_TypeNode -> Option Bool) (_ : Val -> Api_Type -> Api_TypeNode -> Option Bool) (rec_core_Has : Val -> Api_Type -> Int -> Option Bool) (_ : Int -> Val -> Api_Type -> Option Bool) (_ : Int -> Val -> Api_Type -> Option Bool) (_ : Val -> Api_Type -> Api_TypeNode -> Option Bool) (k : Int) (a1_1 : Val) (a2_2 : Api_Type) : Option Bool :=
 Option.bind (rec_core_Has a1_1 a2_2 k) fun r1 =>
 some r1
def b2R (_ : Nat) (_ : (List Val) -> Api_Type -> (List Int) -> Option Bool) (_ : Ent -> Api_Type -> Api_TypeNode -> Option Bool) (_ : Val -> Api_Type -> Api_TypeNode -> Option Bool) (rec_core_Has : Val -> Api_Type -> Int -> Option Bool) (_ : Int -> Val -> Api_Type -> Option Bool) (_ : Int -> Val -> Api_Type -> Option Bool) (_ : Val -> Api_Type -> Api_TypeNode -> Option Bool) (k : Int) (a1_1 : Val) (a2_2 : Api_Type) : Option Bool :=
 Option.bind (rec_core_Has a1_1 a2_2 k) fun r1 =>
 some (!r1)
def b2o (_ : Nat) (_ : (List Val) -> Api_Type -> (List Int) -> Option Bool) (_ : Ent -> Api_Type -> Api_TypeNode -> Option Bool) (_ : Val -> Api_Type -> Api_TypeNode -> Option Bool) (rec_core_Has : Val -> Api_Type -> Int -> Option Bool) (_ : Int -> Val -> Api_Type -> Option Bool) (_ : Int -> Val -> Api_Type -> Option Bool) (_ : Val -> Api_Type -> Api_TypeNode -> Option Bool) (v : Val) (t : Api_Type) (n_2 : Api_TypeNode) : Option Bool :=
 Option.bind (j5 (b0W v n_2) ((n_2.Fields.length : Int).toNat + 1) 0) fun b5 =>
 w9 (fun _ =>
 Option.bind (j5 (b0Z v t n_2 rec_core_Has) ((v.Keys.length : Int).toNat + 1) 0) fun b13 =>
 w9 (fun _ =>
 some true) (fun y15 =>
 some y15) b13) (fun y7 =>
 some y7) b5
def y3 : Nat -> ((List Val) -> Api_Type -> (List Int) -> Option Bool) × (Ent -> Api_Type -> Api_TypeNode -> Option Bool) × (Val -> Api_Type -> Api_TypeNode -> Option Bool) × (Val -> Api_Type -> Int -> Option Bool) × (Int -> Val -> Api_Type -> Option Bool) × (Int -> Val -> Api_Type -> Option Bool) × (Val -> Api_Type -> Api_TypeNode -> Option Bool)
 | 0 => (fun _ _ _ => none, fun _ _ _ => none, fun _ _ _ => none, fun _ _ _ => none, fun _ _ _ => none, fun _ _ _ => none, fun _ _ _ => none)
 | n + 1 => (b4V n ((y3 n).1) ((y3 n).2.1) ((y3 n).2.2.1) ((y3 n).2.2.2.1) ((y3 n).2.2.2.2.1) ((y3 n).2.2.2.2.2.1) ((y3 n).2.2.2.2.2.2), a7L n ((y3 n).1) ((y3 n).2.1) ((y3 n).2.2.1) ((y3 n).2.2.2.1) ((y3 n).2.2.2.2.1) ((y3 n).2.2.2.2.2.1) ((y3 n).2.2.2.2.2.2), a7U n ((y3 n).1) ((y3 n).2.1) ((y3 n).2.2.1) ((y3 n).2.2.2.1) ((y3 n).2.2.2.2.1) ((y3 n).2.2.2.2.2.1) ((y3 n).2.2.2.2.2.2), b5i n ((y3 n).1) ((y3 n).2.1) ((y3 n).2.2.1) ((y3 n).2.2.2.1) ((y3 n).2.2.2.2.1) ((y3 n).2.2.2.2.2.1) ((y3 n).2.2.2.2.2.2), b2J n ((y3 n).1) ((y3 n).2.1) ((y3 n).2.2.1) ((y3 n).2.2.2.1) ((y3 n).2.2.2.2.1) ((y3 n).2.2.2.2.2.1) ((y3 n).2.2.2.2.2.2), b2R n ((y3 n).1) ((y3 n).2.1) ((y3 n).2.2.1) ((y3 n).2.2.2.1) ((y3 n).2.2.2.2.1) ((y3 n).2.2.2.2.2.1) ((y3 n).2.2.2.2.2.2), b2o n ((y3 n).1) ((y3 n).2.1) ((y3 n).2.2.1) ((y3 n).2.2.2.1) ((y3 n).2.2.2.2.1) ((y3 n).2.2.2.2.2.1) ((y3 n).2.2.2.2.2.2))
def b6h (n : Nat) : (List Val) -> Api_Type -> (List Int) -> Option Bool := (y3 n).1
def a82 (n : Nat) : Ent -> Api_Type -> Api_TypeNode -> Option Bool := (y3 n).2.1
def a9x (n : Nat) : Val -> Api_Type -> Api_TypeNode -> Option Bool := (y3 n).2.2.1
def a9v (n : Nat) : Val -> Api_Type -> Int -> Option Bool := (y3 n).2.2.2.1
def b4x (n : Nat) : Int -> Val -> Api_Type -> Option Bool := (y3 n).2.2.2.2.1
def b5e (n : Nat) : Int -> Val -> Api_Type -> Option Bool := (y3 n).2.2.2.2.2.1
def b3T (n : Nat) : Val -> Api_Type -> Api_TypeNode -> Option Bool := (y3 n).2.2.2.2.2.2
def a7J (n : Nat) (i : Int) (a1_1 : Val) (a2_2 : Api_Type) : Option Bool :=
 Option.bind (a9v n a1_1 a2_2 i) fun r1 =>
 some (!r1)
def a7E (n : Nat) (i : Int) (a1_1 : Val) (a2_2 : Api_Type) : Option Bool :=
 Option.bind (a9v n a1_1 a2_2 i) fun r1 =>
 some r1
def a9l (n : Nat) (v : Val) (t : Api_Type) (pos : List Int) (neg : List Int) : Option Bool :=
 Option.bind (Z3 pos (fun z1 =>
 Option.bind (a7J n z1 v t) fun r2 =>
 some r2)) fun r3 =>
 Option.bind (bif !r3
 then (Option.bind (Z3 neg (fun z4 =>
 Option.bind (a7E n z4 v t) fun r5 =>
 some r5)) fun r6 =>
 some (!r6))
 else (some false)) fun q7 =>
 some q7
def a8j (n : Nat) (v : Val) (t : Api_Type) (g : Api_Goal) : Option Bool :=
 Option.bind (a6L n v) fun r1 =>
 Option.bind (bif r1 != 0
 then (some true)
 else (Option.bind (a3P n t) fun r2 =>
 some (r2 != 0))) fun q3 =>
 Option.bind (bif q3
 then (some true)
 else (Option.bind (a9e t g) fun r4 =>
 some (!r4))) fun q5 =>
 bif q5
 then (some false)
 else (Option.bind (bif g.Lists
 then (some (v.Kind != 5))
 else (some false)) fun q6 =>
 Option.bind (bif q6
 then (some (v.Kind != 7))
 else (some false)) fun q7 =>
 bif q7
 then (some false)
 else (Option.bind (a9l n v t g.Pos g.Neg) fun r8 =>
 some r8))
def a9J (v : List Val) (t : Api_Type) (b : Api_Box) (n : Nat) (x1 : Int) : Option (Fl Int (Sum Unit Bool)) :=
 bif decide (x1 < (v.length : Int))
 then (Option.bind (idx v x1) fun e2 =>
 Option.bind (idx b.Parts x1) fun e3 =>
 Option.bind (a8j n e2 t e3) fun r4 =>
 bif !r4
 then (some (.done (.inr false)))
 else (some (.next (wr .i64 (x1 + 1)))))
 else (some (.done (.inl ())))
def a7D (n : Nat) (v : List Val) (t : Api_Type) (b : Api_Box) : Option Bool :=
 bif (v.length : Int) != (b.Parts.length : Int)
 then (some false)
 else (Option.bind (j5 (a9J v t b n) ((v.length : Int).toNat + 1) 0) fun b5 =>
 w9 (fun _ =>
 some true) (fun y7 =>
 some y7) b5)
def W4 (n : Nat) : Option Bool :=
 Option.bind (a1N n 2 ([([1, 2] : List Int)] : List (List Int)) ([([3, 4] : List Int)] : List (List Int))) fun r1 =>
 Option.bind (bif decide (0 < (r1.length : Int))
 then (Option.bind (idx r1 0) fun _ =>
 Option.bind (r1[(0 : Int).toNat]?) fun e3 =>
 some ((e3.Parts.length : Int) == 2))
 else (some false)) fun q4 =>
 bif q4
 then (Option.bind (a54) fun r5 =>
 Option.bind (a7D n ([r5] : List Val) (Api_Type.mk ([Api_TypeNode.mk 9 0 0 (⟨#[]⟩ : ByteArray) ([] : List Int) ([] : List Api_Field) (0, 0)] : List Api_TypeNode) 0) (Api_Box.mk ([Api_Goal.mk ([0] : List Int) ([] : List Int) false] : List Api_Goal))) fun r6 =>
 some r6)
 else (some false)
def a0l (r : List Int) (el : List Int) (x1 : Int) : Option (Fl Int (Sum Unit Bool)) :=
 bif decide (x1 < (r.length : Int))
 then (Option.bind (idx el x1) fun e2 =>
 Option.bind (idx r x1) fun e3 =>
 Option.bind (a65 .u8 e2 (wr .u64 e3)) fun d4 =>
 bif (a3Y .u8 d4 1) == 0
 then (some (.done (.inr false)))
 else (some (.next (wr .i64 (x1 + 1)))))
 else (some (.done (.inl ())))
def W6 (r : List Int) (el : List Int) : Option Bool :=
 Option.bind (j5 (a0l r el) ((r.length : Int).toNat + 1) 0) fun b5 =>
 w9 (fun _ =>
 some true) (fun y7 =>
 some y7) b5
def a0Z (d : Api_Goal) (t : Int) (x1 : Int) : Option (Fl Int (Sum Unit Bool)) :=
 bif decide (x1 < (d.Pos.length : Int))
 then (Option.bind (idx d.Pos x1) fun e2 =>
 Option.bind (bif decide (e2 < 0)
 then (some true)
 else (Option.bind (idx d.Pos x1) fun e3 =>
 some (decide (7 < e3)))) fun q4 =>
 Option.bind (bif q4
 then (some true)
 else (Option.bind (idx d.Pos x1) fun e5 =>
 Option.bind (a65 .u8 t (wr .u64 e5)) fun d6 =>
 some ((a3Y .u8 d6 1) == 0))) fun q7 =>
 bif q7
 then (some (.done (.inr false)))
 else (some (.next (wr .i64 (x1 + 1)))))
 else (some (.done (.inl ())))
def a0X (d : Api_Goal) (t : Int) (x11 : Int) : Option (Fl Int (Sum Unit Bool)) :=
 bif decide (x11 < (d.Neg.length : Int))
 then (Option.bind (idx d.Neg x11) fun e12 =>
 Option.bind (bif decide (e12 < 0)
 then (some true)
 else (Option.bind (idx d.Neg x11) fun e13 =>
 some (decide (7 < e13)))) fun q14 =>
 Option.bind (bif q14
 then (some true)
 else (Option.bind (idx d.Neg x11) fun e15 =>
 Option.bind (a65 .u8 t (wr .u64 e15)) fun d16 =>
 some ((a3Y .u8 d16 1) == 1))) fun q17 =>
 bif q17
 then (some (.done (.inr false)))
 else (some (.next (wr .i64 (x11 + 1)))))
 else (some (.done (.inl ())))
def a1Y (d : Api_Goal) (t : Int) : Option Bool :=
 Option.bind (j5 (a0Z d t) ((d.Pos.length : Int).toNat + 1) 0) fun b8 =>
 w9 (fun _ =>
 Option.bind (j5 (a0X d t) ((d.Neg.length : Int).toNat + 1) 0) fun b18 =>
 w9 (fun _ =>
 some true) (fun y20 =>
 some y20) b18) (fun y10 =>
 some y10) b8
def Q5 (d1 : Int) (r2 : List (List Int)) (r3 : List (List Int)) (x7 : Bool × Int) : Option (Fl (Bool × Int) Bool) :=
 bif decide (x7.2 < ((r2 ++ r3).length : Int))
 then (Option.bind (bif x7.1
 then (Option.bind (idx (r2 ++ r3) x7.2) fun e8 =>
 some ((e8.length : Int) == (wr .i64 d1)))
 else (some false)) fun q9 =>
 some (.next (q9, wr .i64 (x7.2 + 1))))
 else (some (.done x7.1))
def w4 (a3_3 : List Int) (d1 : Int) (x16 : (List Int) × Int) : Option (Fl ((List Int) × Int) (List Int)) :=
 Option.bind (bif decide (x16.2 < (wr .i64 d1))
 then (some (decide (x16.2 < (a3_3.length : Int))))
 else (some false)) fun q17 =>
 bif q17
 then (Option.bind (idx a3_3 x16.2) fun e18 =>
 Option.bind (idx x16.1 x16.2) fun _ =>
 Option.bind (x16.1[x16.2.toNat]?) fun _ =>
 some (.next (x16.1.set x16.2.toNat e18, wr .i64 (x16.2 + 1))))
 else (some (.done x16.1))
def Q7 (r2 : List (List Int)) (x22 : (List Int) × Bool × Int) : Option (Fl ((List Int) × Bool × Int) ((List Int) × Bool)) :=
 bif decide (x22.2.2 < (r2.length : Int))
 then (Option.bind (bif x22.2.1
 then (Option.bind (idx r2 x22.2.2) fun e23 =>
 Option.bind (W6 e23 x22.1) fun r24 =>
 some (x22.1, r24))
 else (some (x22.1, false))) fun b25 =>
 some (.next (b25.1, b25.2, wr .i64 (x22.2.2 + 1))))
 else (some (.done (x22.1, x22.2.1)))
def Q8 (r3 : List (List Int)) (b26 : (List Int) × Bool) (x27 : Bool × Int) : Option (Fl (Bool × Int) Bool) :=
 bif decide (x27.2 < (r3.length : Int))
 then (Option.bind (bif x27.1
 then (Option.bind (idx r3 x27.2) fun e28 =>
 Option.bind (W6 e28 b26.1) fun r29 =>
 some (!r29))
 else (some false)) fun q30 =>
 some (.next (q30, wr .i64 (x27.2 + 1))))
 else (some (.done x27.1))
def Q6 (d1 : Int) (r4 : List Api_Box) (b26 : (List Int) × Bool) (x32 : Bool × Int) (x34 : Bool × Int) : Option (Fl (Bool × Int) Bool) :=
 bif decide (x34.2 < (wr .i64 d1))
 then (Option.bind (bif x34.1
 then (Option.bind (idx r4 x32.2) fun e35 =>
 Option.bind (idx e35.Parts x34.2) fun e36 =>
 Option.bind (idx b26.1 x34.2) fun e37 =>
 Option.bind (a1Y e36 e37) fun r38 =>
 some r38)
 else (some false)) fun q39 =>
 some (.next (q39, wr .i64 (x34.2 + 1))))
 else (some (.done x34.1))
def Q9 (d1 : Int) (r4 : List Api_Box) (b26 : (List Int) × Bool) (x32 : Bool × Int) : Option (Fl (Bool × Int) (Sum Bool Bool)) :=
 bif decide (x32.2 < (r4.length : Int))
 then (Option.bind (idx r4 x32.2) fun e33 =>
 bif (e33.Parts.length : Int) != (wr .i64 d1)
 then (some (.done (.inr false)))
 else (Option.bind (j5 (Q6 d1 r4 b26 x32) ((wr .i64 d1).toNat + 1) (true, 0)) fun b40 =>
 Option.bind (bif x32.1
 then (some true)
 else (some b40)) fun q41 =>
 some (.next (q41, wr .i64 (x32.2 + 1)))))
 else (some (.done (.inl x32.1)))
def W9 (n : Nat) (d : Int) (t : List Int) (a2_2 : List Int) (a3_3 : List Int) : Option Bool :=
 Option.bind (a6c (wr .u64 d) 4) fun d1 =>
 Option.bind (V3 t (wr .i64 d1) 3) fun r2 =>
 Option.bind (V3 a2_2 (wr .i64 d1) 4) fun r3 =>
 Option.bind (a1N n (wr .i64 d1) r2 r3) fun r4 =>
 Option.bind (a0q (0 + r2.length) 24) fun _ =>
 Option.bind (a0q (r2.length + r3.length) 24) fun _ =>
 Option.bind (j5 (Q5 d1 r2 r3) (((r2 ++ r3).length : Int).toNat + 1) (true, 0)) fun b10 =>
 bif !b10
 then (Option.bind (bif (r4.length : Int) == 0
 then (Option.bind (W4 n) fun r11 =>
 some r11)
 else (some false)) fun q12 =>
 some q12)
 else (Option.bind (bif decide (2000 < (r4.length : Int))
 then (some true)
 else (some (decide (12 < (a3_3.length : Int))))) fun q13 =>
 bif q13
 then (Option.bind (W4 n) fun r14 =>
 some r14)
 else (Option.bind (a2N (wr .i64 d1) (wr .i64 d1) 1) fun m15 =>
 Option.bind (j5 (w4 a3_3 d1) ((wr .i64 d1).toNat + 1) (List.replicate m15 (0 : Int), 0)) fun b21 =>
 Option.bind (j5 (Q7 r2) ((r2.length : Int).toNat + 1) (b21, true, 0)) fun b26 =>
 Option.bind (j5 (Q8 r3 b26) ((r3.length : Int).toNat + 1) (b26.2, 0)) fun b31 =>
 Option.bind (j5 (Q9 d1 r4 b26) ((r4.length : Int).toNat + 1) (false, 0)) fun b42 =>
 w9 (fun x43 =>
 Option.bind (bif x43 == b31
 then (Option.bind (W4 n) fun r45 =>
 some r45)
 else (some false)) fun q46 =>
 some q46) (fun y44 =>
 some y44) b42))
end Go.Qx
end
section
namespace Go.Pl
open Go Go.RowKit Go.Sx Go.Qx
theorem X0 (x : Int) : wr .i64 x = w64 x := rfl
theorem b1a {α : Type} (b : Bool) (x y : α) : (bif b then x else y) = if b = true then x else y := by cases b <;> rfl
theorem b4Z {α : Type} (o : Option α) : (Option.bind o fun x => some x) = o := by cases o <;> rfl
theorem a05 {α : Type} (l : List α) : ((l.length : Int)).toNat = l.length := by omega
theorem a3n {x : Int} (h1 : -9223372036854775808 <= x) (h2 : x <= 9223372036854775807) : w64 x = x := by
 unfold w64
 rw [IntKind.wrap_i64]
 omega
theorem w8 {α : Type} {xs : List α} {i : Nat} {x : α} (h : xs[i]? = some x) : idx xs (i : Int) = some x := by
 unfold idx
 rw [if_pos (by omega)]
 simpa using h
theorem a1p {n bytes : Nat} (h : n * bytes <= 140737488355328) : a0q n bytes = some () := by unfold a0q; rw [if_pos h]
def b36 (s : ByteArray) : Nat := s.size + 1
def a9r : List ByteArray -> Nat
 | [] => 0
 | s :: r => b36 s + a9r r
def b7E (k : Key) : Nat := 1 + b36 k.Text + 1
end Go.Pl
namespace Go.Pl
open Go Go.RowKit Go.Sx Go.Qx
theorem a0z {α : Type} {l : List α} {i : Nat} {x : α} (h : l[i]? = some x) : l.take (i + 1) = l.take i ++ [x] := by
 rw [List.take_add_one, h]; rfl
end Go.Pl
end
section
namespace Go.Pl
open Go Go.RowKit Go.Sx Go.Qx
def tn (x y : Int) : Int := if x = 0 then y else x
def cI (x y : Int) : Int := if x < y then -1 else if y < x then 1 else 0
def lx : List Int -> List Int -> Int
 | [], [] => 0
 | [], _ :: _ => -1
 | _ :: _, [] => 1
 | x :: xs, y :: ys => tn (cI x y) (lx xs ys)
theorem b3i (x y z : Int) : tn (tn x y) z = tn x (tn y z) := by unfold tn; split <;> simp_all
theorem b7Q (x : Int) : tn x 0 = x := by unfold tn; split <;> simp_all
theorem b7G (x : Int) : tn 0 x = x := by simp [tn]
theorem W2 (x y : Int) : (x < y /\ cI x y = -1) \/ (y < x /\ cI x y = 1) \/ (x = y /\ cI x y = 0) := by
 unfold cI
 by_cases h : x < y
 ·left; simp [h]
 ·by_cases h2 : y < x
  ·right; left; simp [h, h2]
  ·right; right; simp [h, h2]; omega
theorem b4k : ∀ a b : List Int, lx b a = - lx a b
 | [], [] => by simp [lx]
 | [], _ :: _ => by simp [lx]
 | _ :: _, [] => by simp [lx]
 | x :: xs, y :: ys => by
   have := b4k xs ys
   rcases W2 x y with ⟨h1, h⟩ | ⟨h1, h⟩ | ⟨h1, h⟩ <;> rcases W2 y x with ⟨h2, k⟩ | ⟨h2, k⟩ | ⟨h2, k⟩ <;> simp [lx, h, k, tn] <;> omega
theorem b2W : ∀ a b c : List Int, lx a b <= 0 -> lx b c <= 0 -> lx a c <= 0
 | [], _, [], _, _ => by simp [lx]
 | [], _, _ :: _, _, _ => by simp [lx]
 | _ :: _, [], _, h, _ => by simp [lx] at h
 | _ :: _, _ :: _, [], _, h => by simp [lx] at h
 | x :: xs, y :: ys, z :: zs, h1, h2 => by
   have := b2W xs ys zs
   rcases W2 x y with ⟨p1, h⟩ | ⟨p1, h⟩ | ⟨p1, h⟩ <;> rcases W2 y z with ⟨p2, k⟩ | ⟨p2, k⟩ | ⟨p2, k⟩ <;>
    rcases W2 x z with ⟨p3, l⟩ | ⟨p3, l⟩ | ⟨p3, l⟩ <;> simp [lx, h, k, l, tn] at h1 h2 ⊢ <;> first | omega | (exact this (by omega) (by omega))
def cBs : List UInt8 -> List UInt8 -> Int
 | [], [] => 0
 | [], _ :: _ => -1
 | _ :: _, [] => 1
 | x :: xs, y :: ys => tn (cI x.toNat y.toNat) (cBs xs ys)
def eBs : List UInt8 -> List Int
 | [] => [0]
 | x :: r => ((x.toNat : Int) + 1) :: eBs r
theorem b7y (x y : Int) : cI (x + 1) (y + 1) = cI x y := by
 unfold cI
 by_cases h : x < y
 ·rw [if_pos (by omega), if_pos h]
 ·rw [if_neg (by omega), if_neg h]
  by_cases h2 : y < x
  ·rw [if_pos (by omega), if_pos h2]
  ·rw [if_neg (by omega), if_neg h2]
theorem b8z : ∀ (a b : List UInt8) (r s : List Int), lx (eBs a ++ r) (eBs b ++ s) = tn (cBs a b) (lx r s)
 | [], [], r, s => by simp [eBs, lx, cBs, cI, b7G]
 | [], y :: ys, r, s => by
   have : cI 0 ((y.toNat : Int) + 1) = -1 := by unfold cI; rw [if_pos (by omega)]
   simp [eBs, lx, cBs, this, tn]
 | x :: xs, [], r, s => by
   have : cI ((x.toNat : Int) + 1) 0 = 1 := by unfold cI; rw [if_neg (by omega), if_pos (by omega)]
   simp [eBs, lx, cBs, this, tn]
 | x :: xs, y :: ys, r, s => by
   simp only [eBs, List.cons_append, lx, cBs, b7y, b8z xs ys, b3i]
def cS (a b : ByteArray) : Int := cBs a.data.toList b.data.toList
def eS (a : ByteArray) : List Int := eBs a.data.toList
theorem pfS (a b : ByteArray) (r s : List Int) : lx (eS a ++ r) (eS b ++ s) = tn (cS a b) (lx r s) := b8z _ _ r s
def cK (a b : Key) : Int := tn (cI a.Kind b.Kind) (cS a.Text b.Text)
def eK (a : Key) : List Int := a.Kind :: eS a.Text
theorem pfK (a b : Key) (r s : List Int) : lx (eK a ++ r) (eK b ++ s) = tn (cK a b) (lx r s) := by
 simp only [eK, List.cons_append, lx, pfS, cK, b3i]
end Go.Pl
namespace Go.Pl
open Go Go.RowKit Go.Sx Go.Qx
theorem b1U : ∀ a b : List UInt8, (Op.bytesLess a b = true /\ cBs a b = -1 /\ a ≠ b) \/ (Op.bytesLess a b = false /\ cBs a b = 0 /\ a = b) \/ (Op.bytesLess a b = false /\ cBs a b = 1 /\ a ≠ b)
 | [], [] => by simp [Op.bytesLess, cBs]
 | [], _ :: _ => by simp [Op.bytesLess, cBs]
 | _ :: _, [] => by simp [Op.bytesLess, cBs]
 | x :: xs, y :: ys => by
   have ih := b1U xs ys
   simp only [Op.bytesLess, cBs]
   rcases W2 (x.toNat : Int) (y.toNat : Int) with ⟨h, e⟩ | ⟨h, e⟩ | ⟨h, e⟩
   ·have h1 : x < y := UInt8.lt_iff_toNat_lt.2 (by omega)
    have h2 : x ≠ y := by intro h3; subst h3; omega
    simp [e, h1, h2, tn]
   ·have h1 : ¬ x < y := fun h3 => by have := UInt8.lt_iff_toNat_lt.1 h3; omega
    have h2 : x ≠ y := by intro h3; subst h3; omega
    simp [e, h1, h2, tn]
   ·have h2 : x = y := UInt8.toNat_inj.1 (by omega)
    subst h2
    have h1 : ¬ x < x := fun h3 => by have := UInt8.lt_iff_toNat_lt.1 h3; omega
    simpa [e, h1, tn] using ih
end Go.Pl
end
section
namespace Go.Pl
open Go Go.RowKit Go.Sx Go.Qx
theorem Y6 (i : Nat) (h : i <= 4611686018427387904) : w64 ((i : Int) + 1) = ((i + 1 : Nat) : Int) := by rw [a3n (by omega) (by omega)]; rfl
def asc {α : Type} (c : α -> α -> Int) : List α -> Bool
 | x :: y :: r => decide (c x y < 0) && asc c (y :: r)
 | _ => true
def b6L (c : UInt8) : Bool := decide (97 <= (c.toNat : Int)) && decide ((c.toNat : Int) <= 122)
def upC (c : UInt8) : Bool := decide (65 <= (c.toNat : Int)) && decide ((c.toNat : Int) <= 90)
def b8L (c : UInt8) : Bool := decide (48 <= (c.toNat : Int)) && decide ((c.toNat : Int) <= 57)
def b5u (f g : UInt8 -> Bool) (s : ByteArray) : Bool :=
 match s.data.toList with
 | [] => false
 | c :: r => decide (r.length <= 15) && f c && r.all g
def b7o (s : ByteArray) : Bool := b5u upC (fun c => b6L c || upC c || b8L c || (c.toNat : Int) == 95) s
def b5p (s : ByteArray) : Bool := b5u b6L (fun c => b6L c || b8L c || (c.toNat : Int) == 95) s
def b2I (l : List ByteArray) : Bool := asc cS l && l.all b7o
def b89 (k : Key) : Bool := if k.Kind = 0 then b5p k.Text else if k.Kind = 1 then decide ((k.Text.size : Int) <= 64) else false
end Go.Pl
end
section
namespace Go.Pl
open Go Go.RowKit Go.Sx Go.Qx
def a0f {α : Type} (p : α -> Bool) (x : α) (out : List α) : List α := out.takeWhile p ++ [x] ++ out.dropWhile p
theorem b6n {α σ τ β : Type} {step : σ -> Option (Fl σ (Sum τ β))} (xs : List α) (p : α -> Bool) (pk : Nat -> σ) (d : τ) (b : β)
 (hst : ∀ (i : Nat) (x : α), xs[i]? = some x -> step (pk i) = some (if p x = true then .next (pk (i + 1)) else .done (.inr b)))
 (hend : step (pk xs.length) = some (.done (.inl d))) : j5 step (xs.length + 1) (pk 0) = some (if xs.all p = true then .inl d else .inr b) := by
 have key : ∀ (m i k : Nat), i + m = xs.length -> m + 1 <= k -> j5 step k (pk i) = some (if (xs.drop i).all p = true then .inl d else .inr b) := by
  intro m
  induction m with
  | zero =>
    intro i k h1 h2
    obtain ⟨k, rfl⟩ : ∃ m, k = m + 1 := ⟨k - 1, by omega⟩
    have e : i = xs.length := by omega
    subst e
    simp [j5, hend]
  | succ m ih =>
    intro i k h1 h2
    obtain ⟨k, rfl⟩ : ∃ m, k = m + 1 := ⟨k - 1, by omega⟩
    have hlt : i < xs.length := by omega
    have hs := hst i xs[i] (List.getElem?_eq_getElem hlt)
    rw [List.drop_eq_getElem_cons hlt, List.all_cons]
    by_cases hp : p xs[i] = true
    ·rw [if_pos hp] at hs
     simp only [j5, hs, Option.bind_some, ih (i + 1) k (by omega) (by omega), hp, Bool.true_and]
    ·rw [if_neg hp] at hs
     simp [j5, hs, hp]
 have := key xs.length 0 (xs.length + 1) (by omega) (Nat.le_refl _)
 simpa using this
theorem b05 {α : Type} (c : α -> α -> Int) (hanti : ∀ a b, c b a = - c a b) (x : α) : ∀ out : List α, asc c out = true -> (∀ y, (out.dropWhile (fun y => decide (c y x < 0))).head? = some y -> c y x ≠ 0) ->
 asc c (a0f (fun y => decide (c y x < 0)) x out) = true
 | [], _, _ => by simp [a0f, asc]
 | y :: r, h, hne => by
   by_cases hp : c y x < 0
   ·have ih := b05 c hanti x r (by cases r with | nil => simp [asc] | cons z r => simp [asc] at h; exact h.2) (by
     intro z hz
     refine hne z ?_
     simpa [hp] using hz)
    have e : a0f (fun y => decide (c y x < 0)) x (y :: r) = y :: a0f (fun y => decide (c y x < 0)) x r := by simp [a0f, hp]
    rw [e]
    cases r with
    | nil => simp [a0f, asc, hp]
    | cons z r =>
      simp only [asc, Bool.and_eq_true, decide_eq_true_eq] at h
      by_cases hz : c z x < 0
      ·have e2 : a0f (fun y => decide (c y x < 0)) x (z :: r) = z :: a0f (fun y => decide (c y x < 0)) x r := by simp [a0f, hz]
       rw [e2] at ih ⊢
       simp only [asc, Bool.and_eq_true, decide_eq_true_eq]
       exact ⟨h.1, ih⟩
      ·have e2 : a0f (fun y => decide (c y x < 0)) x (z :: r) = x :: z :: r := by simp [a0f, hz]
       rw [e2] at ih ⊢
       simp only [asc, Bool.and_eq_true, decide_eq_true_eq] at ih ⊢
       exact ⟨hp, ih⟩
   ·have e : a0f (fun y => decide (c y x < 0)) x (y :: r) = x :: y :: r := by simp [a0f, hp]
    have hy := hne y (by simp [hp])
    have ha := hanti y x
    rw [e]
    simp only [asc, Bool.and_eq_true, decide_eq_true_eq]
    exact ⟨by omega, h⟩
theorem b5Q {α : Type} {p : α -> Bool} {x y : α} {out : List α} (h : y ∈ a0f p x out) : y = x \/ y ∈ out := by
 have e := List.takeWhile_append_dropWhile (p := p) (l := out)
 simp only [a0f, List.mem_append, List.mem_singleton] at h
 rcases h with (h | h) | h
 ·exact .inr (by rw [<- e]; exact List.mem_append_left _ h)
 ·exact .inl h
 ·exact .inr (by rw [<- e]; exact List.mem_append_right _ h)
theorem b1P {α : Type} (p : α -> Bool) (x : α) (out : List α) : (a0f p x out).length = out.length + 1 := by
 have e := congrArg List.length (List.takeWhile_append_dropWhile (p := p) (l := out))
 simp only [List.length_append] at e
 simp only [a0f, List.length_append, List.length_singleton]
 omega
theorem b8K {α : Type} (l : List α) {k : Nat} (h : k <= l.length) : cut l 0 (k : Int) = some (l.take k) := by
 unfold cut
 rw [if_pos ⟨by omega, by omega, by omega⟩]
 simp
end Go.Pl
end
section
namespace Go.Pl
open Go Go.RowKit Go.Sx Go.Qx
theorem b5f (a b : Key) : cK a b = lx (eK a) (eK b) := by
 have := pfK a b [] []
 simpa [lx, b7Q] using this.symm
theorem b7F (a b : Key) : cK b a = - cK a b := by rw [b5f, b5f]; exact b4k _ _
end Go.Pl
namespace Go.Pl
open Go Go.RowKit Go.Sx Go.Qx
end Go.Pl
end
section
namespace Go.Pl
open Go Go.RowKit Go.Sx Go.Qx
structure OS (L : List Int) (s : Semtypebase_Source) : Prop where
 l : s.L = L
 lo : 0 <= s.At
 hi : s.At <= (L.length : Int)
section
variable {L : List Int}
theorem b1w (hL : L.length <= 4194304) {s : Semtypebase_Source} (h : OS L s) {n : Int} (h1 : 1 <= n) (h2 : n <= 1000) : ∃ x t, J2 s n = some (x, t) /\ OS L t /\ 0 <= x /\ x < n := by
 obtain ⟨hl, lo, hi⟩ := h
 unfold J2
 have e1 : decide (n < 1) = false := by simp; omega
 rw [e1, hl]
 by_cases he : (L.length : Int) <= s.At
 ·have e2 : decide ((L.length : Int) <= s.At) = true := by simpa using he
  rw [e2]
  exact ⟨0, s, rfl, ⟨hl, lo, hi⟩, by omega, by omega⟩
 ·have e2 : decide ((L.length : Int) <= s.At) = false := by simpa using he
  rw [e2]
  simp only [cond_false, Option.bind_some]
  have hlt : s.At.toNat < L.length := by omega
  have e : idx L s.At = some L[s.At.toNat] := by
   have := w8 (List.getElem?_eq_getElem hlt)
   rwa [show ((s.At.toNat : Nat) : Int) = s.At by omega] at this
  rw [e]
  simp only [Option.bind_some]
  have hq : a6c L[s.At.toNat] n = some (L[s.At.toNat].tmod n) := by unfold a6c; rw [if_neg (by omega)]
  rw [hq]
  simp only [Option.bind_some, X0]
  have b1 := Int.tmod_lt_of_pos L[s.At.toNat] (show 0 < n by omega)
  have b2 := Int.lt_tmod_of_pos L[s.At.toNat] (show 0 < n by omega)
  have hw : w64 (s.At + 1) = s.At + 1 := a3n (by omega) (by omega)
  have hos : OS L (Semtypebase_Source.mk L (w64 (s.At + 1))) := ⟨rfl, by show 0 <= w64 (s.At + 1); omega, by show w64 (s.At + 1) <= _; omega⟩
  by_cases hn : L[s.At.toNat].tmod n < 0
  ·rw [b1a, if_pos (by simpa using hn), a3n (x := L[s.At.toNat].tmod n + n) (by omega) (by omega)]
   exact ⟨_, _, rfl, hos, by omega, by omega⟩
  ·rw [b1a, if_neg (by simpa using hn)]
   exact ⟨_, _, rfl, hos, by omega, by omega⟩
def chk (o : Option (List ByteArray)) : Bool :=
 match o with
 | some l => b2I l && decide (a9r l <= 4)
 | none => false
theorem b53 {o : Option (List ByteArray)} (h : chk o = true) : ∃ l, o = some l /\ b2I l = true /\ a9r l <= 4 := by
 cases o with
 | none => cases h
 | some l => simp only [chk, Bool.and_eq_true, decide_eq_true_eq] at h; exact ⟨l, rfl, h⟩
def hb : Nat -> Nat
 | 0 => 32
 | h + 1 => 64 + 8 * hb h
end
end Go.Pl
namespace Go.Pl
open Go Go.RowKit Go.Sx Go.Qx
section
variable {L : List Int}
end
end Go.Pl
end
section
namespace Go.Pl
open Go Go.RowKit Go.Sx Go.Qx
end Go.Pl
end
section
namespace Go.Pl
open Go Go.RowKit Go.Sx Go.Qx
def inR (N : Nat) (k : Int) : Bool := decide (0 <= k) && decide (k < (N : Int))
def b4i (N : Nat) (l : List Api_Field) : Bool := asc cK (l.map (·.Key_)) && (l.all (fun f => b89 f.Key_) && l.all fun f => inR N f.Node)
def b7r (N : Nat) (x : Api_TypeNode) : Bool :=
 if x.Kind = 3 then x.Kids.isEmpty && decide (x.Lo <= x.Hi) else if x.Kind = 4 then x.Kids.isEmpty && decide ((x.Text.size : Int) <= 64) else
 if x.Kind = 6 then x.Kids.isEmpty && b5p x.Text else if x.Kind = 19 then x.Kids.isEmpty && b7o x.Text else
 if x.Kind = 1 \/ x.Kind = 2 \/ x.Kind = 5 \/ x.Kind = 7 \/ x.Kind = 8 \/ x.Kind = 9 \/ x.Kind = 11 \/ x.Kind = 15 then x.Kids.isEmpty else
 if x.Kind = 10 then decide ((x.Kids.length : Int) <= 4) else if x.Kind = 12 then (x.Kids.length : Int) == 2 else
 if x.Kind = 14 then decide (1 <= (x.Kids.length : Int)) && decide ((x.Kids.length : Int) <= 5) else
 if x.Kind = 16 \/ x.Kind = 17 then decide (1 <= (x.Kids.length : Int)) else if x.Kind = 18 then (x.Kids.length : Int) == 1 else
 if x.Kind = 13 then b4i N x.Fields && (x.Kids.isEmpty && (inR N x.Rest.1 && inR N x.Rest.2)) else false
def b4F (r : Int × Int) : Bool := r.1 == 0 && r.2 == 0
def a62 (N : Nat) (x : Api_TypeNode) : Bool :=
 x.Kids.all (inR N) && ((x.Kind == 3 || (x.Lo == 0 && x.Hi == 0)) && ((x.Kind == 4 || x.Kind == 6 || x.Kind == 19 || a0j x.Text ⟨#[]⟩) && ((x.Kind == 13 || (x.Fields.isEmpty && b4F x.Rest)) && b7r N x)))
theorem J3 {i n : Nat} (h : i < n) : decide ((i : Int) < (n : Int)) = true := decide_eq_true (by omega)
end Go.Pl
namespace Go.Pl
open Go Go.RowKit Go.Sx Go.Qx
end Go.Pl
namespace Go.Pl
open Go Go.RowKit Go.Sx Go.Qx
def isB (x : Api_TypeNode) : Bool := x.Kind == 16 || x.Kind == 17 || x.Kind == 18
def b9L (ns : List Api_TypeNode) : Bool := ns.all (a62 ns.length)
theorem b48 {N : Nat} {x : Api_TypeNode} (h : a62 N x = true) : ∀ k ∈ x.Kids, inR N k = true := by
 unfold a62 at h
 simp only [Bool.and_eq_true] at h
 exact List.all_eq_true.1 h.1
theorem b7X {N : Nat} {k : Int} (h : inR N k = true) : ∃ j : Nat, k = (j : Int) /\ j < N := by
 unfold inR at h
 simp only [Bool.and_eq_true, decide_eq_true_eq] at h
 exact ⟨k.toNat, by omega, by omega⟩
def Gd (ns : List Api_TypeNode) (D : Nat -> Prop) : Prop := ∃ r : Nat -> Nat, ∀ (i : Nat) (x : Api_TypeNode), D i -> ns[i]? = some x -> isB x = true -> ∀ k ∈ x.Kids, D k.toNat /\ r k.toNat < r i
theorem b4e (r : Nat -> Nat) : ∀ (l : List Int) (k : Int), k ∈ l -> r k.toNat <= (l.map fun k => r k.toNat).sum
 | [], _, h => by cases h
 | y :: l, k, h => by
   rw [List.map_cons, List.sum_cons]
   rcases List.mem_cons.1 h with rfl | h
   ·omega
   ·have := b4e r l k h; omega
theorem Gd.add {ns : List Api_TypeNode} {D D' : Nat -> Prop} (h : Gd ns D) {i : Nat} {x : Api_TypeNode} (hx : ns[i]? = some x) (hk : isB x = true -> ∀ k ∈ x.Kids, D k.toNat) (hD : ∀ j, D' j ↔ D j \/ j = i) : Gd ns D' := by
 obtain ⟨r, hr⟩ := h
 by_cases hi : D i
 ·have e : ∀ j, D' j ↔ D j := fun j => (hD j).trans ⟨fun h => h.elim id (fun h => by rw [h]; exact hi), .inl⟩
  exact ⟨r, fun j y h1 h2 h3 k h4 => by
   obtain ⟨k1, k2⟩ := hr j y ((e j).1 h1) h2 h3 k h4
   exact ⟨(e _).2 k1, k2⟩⟩
 ·refine ⟨fun j => if j = i then 1 + (x.Kids.map fun k => r k.toNat).sum else r j, fun j y h1 h2 h3 k h4 => ?_⟩
  by_cases hj : j = i
  ·subst hj
   rw [hx] at h2
   cases h2
   have hDk := hk h3 k h4
   have hne : k.toNat ≠ j := fun e => hi (e ▸ hDk)
   refine ⟨(hD _).2 (.inl hDk), ?_⟩
   simp only [if_neg hne, if_true]
   have := b4e r x.Kids k h4
   omega
  ·obtain ⟨k1, k2⟩ := hr j y (((hD j).1 h1).resolve_right hj) h2 h3 k h4
   have hne : k.toNat ≠ i := fun e => hi (e ▸ k1)
   refine ⟨(hD _).2 (.inl k1), ?_⟩
   simp only [if_neg hne, if_neg hj]
   exact k2
end Go.Pl
namespace Go.Pl
open Go Go.RowKit Go.Sx Go.Qx
end Go.Pl
end
section
namespace Go.Pl
open Go Go.RowKit Go.Sx Go.Qx
structure GN (N i : Nat) (x : Api_TypeNode) : Prop where
 ok : a62 N x = true
 ord : isB x = true -> ∀ k ∈ x.Kids, (i : Int) < k
 kids : x.Kids.length <= 4
 text : x.Text.size <= 5
 flds : x.Fields.length <= 3
 keys : ∀ f ∈ x.Fields, b7E f.Key_ <= 8
theorem a63 {N M : Nat} (h : N <= M) {k : Int} (hk : inR N k = true) : inR M k = true := by
 unfold inR at *
 simp only [Bool.and_eq_true, decide_eq_true_eq] at *
 omega
theorem b3I {α : Type} {p q : α -> Bool} {l : List α} (h : ∀ x, p x = true -> q x = true) (k : l.all p = true) : l.all q = true := List.all_eq_true.2 fun x hx => h x (List.all_eq_true.1 k x hx)
theorem b5h {N M : Nat} (h : N <= M) {x : Api_TypeNode} (hx : a62 N x = true) : a62 M x = true := by
 unfold a62 at *
 simp only [Bool.and_eq_true] at *
 refine ⟨b3I (fun k => a63 h) hx.1, hx.2.1, hx.2.2.1, hx.2.2.2.1, ?_⟩
 have hk := hx.2.2.2.2
 unfold b7r at *
 split <;> rename_i h3
 ·rwa [if_pos h3] at hk
 rw [if_neg h3] at hk
 split <;> rename_i h4
 ·rwa [if_pos h4] at hk
 rw [if_neg h4] at hk
 split <;> rename_i h6
 ·rwa [if_pos h6] at hk
 rw [if_neg h6] at hk
 split <;> rename_i h19
 ·rwa [if_pos h19] at hk
 rw [if_neg h19] at hk
 split <;> rename_i hs
 ·rwa [if_pos hs] at hk
 rw [if_neg hs] at hk
 split <;> rename_i h10
 ·rwa [if_pos h10] at hk
 rw [if_neg h10] at hk
 split <;> rename_i h12
 ·rwa [if_pos h12] at hk
 rw [if_neg h12] at hk
 split <;> rename_i h14
 ·rwa [if_pos h14] at hk
 rw [if_neg h14] at hk
 split <;> rename_i h16
 ·rwa [if_pos h16] at hk
 rw [if_neg h16] at hk
 split <;> rename_i h18
 ·rwa [if_pos h18] at hk
 rw [if_neg h18] at hk
 split <;> rename_i h13
 ·rw [if_pos h13] at hk
  unfold b4i at *
  simp only [Bool.and_eq_true] at *
  exact ⟨⟨hk.1.1, hk.1.2.1, b3I (fun f => a63 h) hk.1.2.2⟩, hk.2.1, a63 h hk.2.2.1, a63 h hk.2.2.2⟩
 ·rwa [if_neg h13] at hk
theorem GN.mono {N M i : Nat} {x : Api_TypeNode} (h : GN N i x) (k : N <= M) : GN M i x := ⟨b5h k h.ok, h.ord, h.kids, h.text, h.flds, h.keys⟩
section
variable {L : List Int}
theorem b8d {γ σ τ : Type} {step : σ -> Option (Fl σ τ)} (pack : γ -> Int -> Semtypebase_Source -> σ) (out : γ -> Semtypebase_Source -> τ) (Inv : Nat -> γ -> Prop) (J : Nat)
 (hst : ∀ (j : Nat) (g : γ) (s : Semtypebase_Source), j < J -> Inv j g -> OS L s -> ∃ g' s', step (pack g (j : Int) s) = some (.next (pack g' ((j + 1 : Nat) : Int) s')) /\ OS L s' /\ Inv (j + 1) g')
 (hend : ∀ g s, step (pack g (J : Int) s) = some (.done (out g s))) :
 ∀ (n j k : Nat) (g : γ) (s : Semtypebase_Source), j + n = J -> n + 1 <= k -> Inv j g -> OS L s -> ∃ g' s', j5 step k (pack g (j : Int) s) = some (out g' s') /\ OS L s' /\ Inv J g' := by
 intro n
 induction n with
 | zero =>
   intro j k g s hJ hk hI hs
   obtain ⟨k, rfl⟩ : ∃ m, k = m + 1 := ⟨k - 1, by omega⟩
   have e : j = J := by omega
   subst e
   exact ⟨g, s, by have := hend g s; simp [j5, this], hs, hI⟩
 | succ n ih =>
   intro j k g s hJ hk hI hs
   obtain ⟨k, rfl⟩ : ∃ m, k = m + 1 := ⟨k - 1, by omega⟩
   obtain ⟨g1, s1, e, hs1, hI1⟩ := hst j g s (by omega) hI hs
   obtain ⟨g2, s2, e2, hs2, hI2⟩ := ih (j + 1) k g1 s1 (by omega) (by omega) hI1 hs1
   refine ⟨g2, s2, ?_, hs2, hI2⟩
   simp only [j5, e, Option.bind_some]
   exact e2
end
end Go.Pl
namespace Go.Pl
open Go Go.RowKit Go.Sx Go.Qx
section
variable {L : List Int}
def GNs (N : Nat) (ns : List Api_TypeNode) : Prop := ∀ (i : Nat) (x : Api_TypeNode), ns[i]? = some x -> GN N i x
end
end Go.Pl
end
section
namespace Go.Pl
open Go Go.RowKit Go.Sx Go.Qx
theorem b81 {a b : ByteArray} (h : cS a b = 0) : a = b := by
 rcases b1U a.data.toList b.data.toList with ⟨_, e, _⟩ | ⟨_, _, e⟩ | ⟨_, e, _⟩
 ·have : cS a b = -1 := e
  omega
 ·exact ByteArray.ext (Array.toList_inj.1 e)
 ·have : cS a b = 1 := e
  omega
theorem b83 {a b : Key} (h : cK a b = 0) : a = b := by
 obtain ⟨k, t⟩ := a
 obtain ⟨k2, t2⟩ := b
 unfold cK tn at h
 simp only at h
 rcases W2 k k2 with ⟨_, e⟩ | ⟨_, e⟩ | ⟨p, e⟩
 ·rw [e] at h; simp at h
 ·rw [e] at h; simp at h
 ·rw [e, if_pos rfl] at h
  rw [p, b81 h]
theorem b6W (a b c : Key) (h1 : cK a b <= 0) (h2 : cK b c <= 0) : cK a c <= 0 := by rw [b5f] at *; exact b2W _ _ _ h1 h2
theorem b5A {a b c : Key} (h1 : cK a b < 0) (h2 : cK b c <= 0) : cK a c < 0 := by
 have h3 := b6W a b c (by omega) h2
 by_cases h : cK a c = 0
 ·have := b83 h
  subst this
  have := b7F a b
  omega
 ·omega
abbrev ltK (a b : Key) : Prop := cK a b < 0
theorem asc_pw : ∀ l : List Key, asc cK l = true ↔ l.Pairwise ltK
 | [] => by simp [asc]
 | [a] => by simp [asc]
 | a :: b :: r => by
   have ih := asc_pw (b :: r)
   simp only [asc, Bool.and_eq_true, decide_eq_true_eq]
   rw [ih, List.pairwise_cons (a := a)]
   constructor
   ·intro ⟨h1, h2⟩
    refine ⟨fun x hx => ?_, h2⟩
    rcases List.mem_cons.1 hx with rfl | hx
    ·exact h1
    ·have := (List.pairwise_cons.1 h2).1 x hx
     exact b5A h1 (by unfold ltK at this; omega)
   ·intro ⟨h1, h2⟩
    exact ⟨h1 b (by simp), h2⟩
end Go.Pl
end
section
namespace Go.Pl
open Go Go.RowKit Go.Sx Go.Qx
structure CmpOk {α : Type} (c : α -> α -> Int) : Prop where
 anti : ∀ a b, c b a = - c a b
 trans : ∀ a b d, c a b <= 0 -> c b d <= 0 -> c a d <= 0
 eq0 : ∀ a b, c a b = 0 -> a = b
theorem cI0 {x y : Int} (h : cI x y = 0) : x = y := by
 rcases W2 x y with ⟨_, e⟩ | ⟨_, e⟩ | ⟨p, _⟩
 ·omega
 ·omega
 ·exact p
section
variable {α : Type} {c : α -> α -> Int} (hc : CmpOk c)
include hc
theorem CmpOk.self (a : α) : c a a = 0 := by have := hc.anti a a; omega
theorem CmpOk.strict {a b d : α} (h1 : c a b < 0) (h2 : c b d <= 0) : c a d < 0 := by
 have h3 := hc.trans a b d (by omega) h2
 by_cases h : c a d = 0
 ·have := hc.eq0 _ _ h
  subst this
  have := hc.anti a b
  omega
 ·omega
theorem CmpOk.asc_pw : ∀ l : List α, asc c l = true ↔ l.Pairwise fun a b => c a b < 0
 | [] => by simp [asc]
 | [a] => by simp [asc]
 | a :: b :: r => by
   have ih := CmpOk.asc_pw (b :: r)
   simp only [asc, Bool.and_eq_true, decide_eq_true_eq]
   rw [ih, List.pairwise_cons (a := a)]
   constructor
   ·intro ⟨h1, h2⟩
    refine ⟨fun x hx => ?_, h2⟩
    rcases List.mem_cons.1 hx with rfl | hx
    ·exact h1
    ·have := (List.pairwise_cons.1 h2).1 x hx
     exact hc.strict h1 (by omega)
   ·intro ⟨h1, h2⟩
    exact ⟨h1 b (by simp), h2⟩
theorem CmpOk.nodup {l : List α} (h : l.Pairwise fun a b => c a b < 0) : l.Nodup := h.imp fun {a b} h e => by
 subst e
 have := hc.self a
 omega
theorem CmpOk.uniq {l m : List α} (h1 : asc c l = true) (h2 : asc c m = true) (h : ∀ x, x ∈ l ↔ x ∈ m) : l = m := by
 have p1 := (hc.asc_pw l).1 h1
 have p2 := (hc.asc_pw m).1 h2
 have hp := (List.perm_ext_iff_of_nodup (hc.nodup p1) (hc.nodup p2)).2 h
 exact hp.eq_of_pairwise (le := fun a b => c a b < 0) (fun a b _ _ h1 h2 => by have := hc.anti a b; omega) p1 p2
omit hc in
def a2v (c : α -> α -> Int) (out : List α) (x : α) : List α :=
 match (out.dropWhile (fun y => decide (c y x < 0))).head? with
 | some y => if c y x = 0 then out else a0f (fun y => decide (c y x < 0)) x out
 | none => a0f (fun y => decide (c y x < 0)) x out
omit hc in
theorem b1M {p : α -> Bool} {x y : α} {out : List α} : y ∈ a0f p x out ↔ y = x \/ y ∈ out := by
 constructor
 ·exact b5Q
 ·intro h
  have e := List.takeWhile_append_dropWhile (p := p) (l := out)
  simp only [a0f, List.mem_append, List.mem_singleton]
  rcases h with h | h
  ·exact .inl (.inr h)
  ·rw [<- e] at h
   rcases List.mem_append.1 h with h | h
   ·exact .inl (.inl h)
   ·exact .inr h
theorem b60 {x y : α} {out : List α} : y ∈ a2v c out x ↔ y = x \/ y ∈ out := by
 unfold a2v
 split
 ·rename_i z hz
  split
  ·rename_i h0
   have := hc.eq0 _ _ h0
   subst this
   have hm : z ∈ out := (List.dropWhile_sublist _).subset (List.mem_of_mem_head? hz)
   constructor
   ·exact .inr
   ·rintro (rfl | h)
    ·exact hm
    ·exact h
  ·exact b1M
 ·exact b1M
theorem b62 (out : List α) (x : α) (h : asc c out = true) : asc c (a2v c out x) = true := by
 unfold a2v
 split
 ·rename_i y hy
  split
  ·exact h
  ·rename_i hne
   refine b05 c hc.anti x out h (fun z hz => ?_)
   rw [hy] at hz
   cases hz
   exact hne
 ·rename_i hy
  refine b05 c hc.anti x out h (fun z hz => ?_)
  rw [hy] at hz; cases hz
theorem b7m : ∀ (xs out : List α), asc c out = true -> asc c (xs.foldl (a2v c) out) = true /\ ∀ y, y ∈ xs.foldl (a2v c) out ↔ y ∈ out \/ y ∈ xs
 | [], out, h => ⟨h, fun y => by simp⟩
 | x :: r, out, h => by
   obtain ⟨h1, h2⟩ := b7m r (a2v c out x) (b62 hc out x h)
   refine ⟨h1, fun y => ?_⟩
   rw [List.foldl_cons, h2, b60 hc, List.mem_cons]
   constructor
   ·rintro ((h | h) | h)
    ·exact .inr (.inl h)
    ·exact .inl h
    ·exact .inr (.inr h)
   ·rintro (h | h | h)
    ·exact .inl (.inr h)
    ·exact .inl (.inl h)
    ·exact .inr h
theorem b4A (xs : List α) : asc c (xs.foldl (a2v c) []) = true /\ ∀ y, y ∈ xs.foldl (a2v c) [] ↔ y ∈ xs := by
 obtain ⟨h1, h2⟩ := b7m hc xs [] rfl
 exact ⟨h1, fun y => by rw [h2]; simp⟩
omit hc in
def dd (r : α -> α -> Bool) : α -> List α -> List α
 | _, [] => []
 | p, x :: l => if r x p = true then dd r x l else x :: dd r x l
omit hc in
def a3p (r : α -> α -> Bool) : List α -> List α
 | [] => []
 | x :: l => x :: dd r x l
theorem b7g : ∀ (l : List α) (p : α), (p :: l).Pairwise (fun a b => ¬ c b a < 0) ->
 (p :: dd (fun x y => decide (c x y = 0)) p l).Pairwise (fun a b => c a b < 0) /\ ∀ y, y ∈ p :: dd (fun x y => decide (c x y = 0)) p l ↔ y ∈ p :: l
 | [], p, _ => ⟨by simp [dd], fun y => by simp [dd]⟩
 | x :: l, p, h => by
   have hp := List.pairwise_cons.1 h
   obtain ⟨h1, h2⟩ := b7g l x hp.2
   simp only [dd]
   by_cases h0 : c x p = 0
   ·rw [if_pos (by simpa using h0)]
    have := hc.eq0 _ _ h0
    subst this
    refine ⟨h1, fun y => ?_⟩
    rw [h2]
    simp
   ·rw [if_neg (by simpa using h0)]
    have hlt : c p x < 0 := by have := hp.1 x (by simp); have := hc.anti p x; omega
    refine ⟨List.pairwise_cons.2 ⟨fun b hb => ?_, h1⟩, fun y => ?_⟩
    ·rcases List.mem_cons.1 hb with rfl | hb
     ·exact hlt
     ·exact hc.strict hlt (by have := (List.pairwise_cons.1 h1).1 b hb; omega)
    ·rw [List.mem_cons, h2, List.mem_cons (b := p)]
theorem b7a (l : List α) (h : l.Pairwise fun a b => ¬ c b a < 0) : asc c (a3p (fun x y => decide (c x y = 0)) l) = true /\ ∀ y, y ∈ a3p (fun x y => decide (c x y = 0)) l ↔ y ∈ l := by
 cases l with
 | nil => exact ⟨rfl, fun y => Iff.rfl⟩
 | cons p l =>
   obtain ⟨h1, h2⟩ := b7g hc l p h
   exact ⟨(hc.asc_pw _).2 h1, h2⟩
theorem b3V {xs p : List α} (hp : p.Perm xs) (hs : p.Pairwise fun a b => ¬ c b a < 0) : a3p (fun x y => decide (c x y = 0)) p = xs.foldl (a2v c) [] := by
 obtain ⟨h1, h2⟩ := b7a hc p hs
 obtain ⟨h3, h4⟩ := b4A hc xs
 exact hc.uniq h1 h3 fun y => by rw [h2, h4, hp.mem_iff]
theorem b66 {xs : List α} (h : asc c xs = true) : xs.foldl (a2v c) [] = xs := by
 obtain ⟨h3, h4⟩ := b4A hc xs
 exact hc.uniq h3 h h4
end
section
variable {α : Type} {r : α -> α -> Bool}
theorem b4O {ok : α -> Prop} {step : (Int × Int) × List α -> Option (Fl ((Int × Int) × List α) (Int × List α))} (i0 n : Nat)
 (hst : ∀ (i k : Nat) (s : List α) (x y : α), ok x -> s.length = n -> i0 + k < n -> 1 <= k -> i < i0 + k -> s[i0 + k]? = some x -> s[i0 + k - 1]? = some y ->
   step (((i : Int), (k : Int)), s) = some (.next (if r x y = true then (((i : Int), ((k + 1 : Nat) : Int)), s) else ((((i + 1 : Nat) : Int), ((k + 1 : Nat) : Int)), s.set i x))))
 (hend : ∀ (i : Int) (k : Nat) (s : List α), s.length = n -> i0 + k = n -> step ((i, (k : Int)), s) = some (.done (i, s))) :
 ∀ (m i k : Nat) (s : List α) (y : α) (fuel : Nat), s.length = n -> i0 + k + m = n -> 1 <= k -> i < i0 + k -> s[i0 + k - 1]? = some y -> m + 1 <= fuel -> (∀ x ∈ s, ok x) ->
  ∃ s', j5 step fuel (((i : Int), (k : Int)), s) = some (((i + (dd r y (s.drop (i0 + k))).length : Nat) : Int), s') /\ s'.length = n /\ s'.take (i + (dd r y (s.drop (i0 + k))).length) = s.take i ++ dd r y (s.drop (i0 + k)) := by
 intro m
 induction m with
 | zero =>
   intro i k s y fuel hl hm hk hi hy hf hok
   obtain ⟨fuel, rfl⟩ : ∃ m, fuel = m + 1 := ⟨fuel - 1, by omega⟩
   have e : s.drop (i0 + k) = [] := List.drop_eq_nil_of_le (by omega)
   rw [e]
   refine ⟨s, ?_, hl, ?_⟩
   ·simp only [j5, hend (i : Int) k s hl (by omega), Option.bind_some]
    rfl
   ·simp [dd]
 | succ m ih =>
   intro i k s y fuel hl hm hk hi hy hf hok
   obtain ⟨fuel, rfl⟩ : ∃ m, fuel = m + 1 := ⟨fuel - 1, by omega⟩
   have hlt : i0 + k < s.length := by omega
   have hx := List.getElem?_eq_getElem hlt
   rw [List.drop_eq_getElem_cons hlt]
   simp only [dd]
   simp only [j5, hst i k s _ y (hok _ (List.getElem_mem hlt)) hl (by omega) hk hi hx hy, Option.bind_some]
   by_cases h : r s[i0 + k] y = true
   ·rw [if_pos h, if_pos h]
    have := ih i (k + 1) s s[i0 + k] fuel hl (by omega) (by omega) (by omega) (by rw [show i0 + (k + 1) - 1 = i0 + k by omega]; exact hx) (by omega) hok
    rw [show i0 + (k + 1) = i0 + k + 1 by omega] at this
    exact this
   ·rw [if_neg h, if_neg h]
    have hd : (s.set i s[i0 + k]).drop (i0 + k + 1) = s.drop (i0 + k + 1) := by
     rw [List.drop_set_of_lt (by omega)]
    have := ih (i + 1) (k + 1) (s.set i s[i0 + k]) s[i0 + k] fuel (by rw [List.length_set]; exact hl) (by omega) (by omega) (by omega) (by
     rw [show i0 + (k + 1) - 1 = i0 + k by omega]
     by_cases e : i = i0 + k
     ·omega
     ·rw [List.getElem?_set_ne e]; exact hx) (by omega) (fun z hz => by
     rcases List.mem_or_eq_of_mem_set hz with hz | rfl
     ·exact hok z hz
     ·exact hok _ (List.getElem_mem hlt))
    rw [show i0 + (k + 1) = i0 + k + 1 by omega, hd] at this
    obtain ⟨s', h1, h2, h3⟩ := this
    refine ⟨s', ?_, h2, ?_⟩
    ·rw [h1, List.length_cons]
     congr 3
     omega
    ·rw [List.length_cons, show i + ((dd r s[i0 + k] (s.drop (i0 + k + 1))).length + 1) = i + 1 + (dd r s[i0 + k] (s.drop (i0 + k + 1))).length by omega, h3]
     have e : (s.set i s[i0 + k]).take (i + 1) = s.take i ++ [s[i0 + k]] := by
      rw [a0z (x := s[i0 + k]) (by rw [List.getElem?_set_self (by omega)]), List.take_set_of_le (Nat.le_refl _)]
     rw [e, List.append_assoc]
     rfl
theorem b5X {step : (Int × Int) × List α -> Option (Fl ((Int × Int) × List α) (Int × List α))} (i0 n : Nat)
 (hst : ∀ (i k : Nat) (s : List α) (x y : α), s.length = n -> i0 + k < n -> 1 <= k -> i < i0 + k -> s[i0 + k]? = some x -> s[i0 + k - 1]? = some y ->
   step (((i : Int), (k : Int)), s) = some (.next (if r x y = true then (((i : Int), ((k + 1 : Nat) : Int)), s) else ((((i + 1 : Nat) : Int), ((k + 1 : Nat) : Int)), s.set i x))))
 (hend : ∀ (i : Int) (k : Nat) (s : List α), s.length = n -> i0 + k = n -> step ((i, (k : Int)), s) = some (.done (i, s)))
 (m i k : Nat) (s : List α) (y : α) (fuel : Nat) (h1 : s.length = n) (h2 : i0 + k + m = n) (h3 : 1 <= k) (h4 : i < i0 + k) (h5 : s[i0 + k - 1]? = some y) (h6 : m + 1 <= fuel) :
   ∃ s', j5 step fuel (((i : Int), (k : Int)), s) = some (((i + (dd r y (s.drop (i0 + k))).length : Nat) : Int), s') /\ s'.length = n /\ s'.take (i + (dd r y (s.drop (i0 + k))).length) = s.take i ++ dd r y (s.drop (i0 + k)) :=
 b4O (ok := fun _ => True) i0 n (fun i k s x y _ => hst i k s x y) hend m i k s y fuel h1 h2 h3 h4 h5 h6 (fun _ _ => trivial)
theorem b6a : ∀ (l : List α) (p : α), (dd r p l).length <= l.length
 | [], _ => Nat.le_refl _
 | x :: l, p => by
   have := b6a l x
   simp only [dd]
   split
   ·simp only [List.length_cons]; omega
   ·simp only [List.length_cons]; omega
theorem a6b : ∀ (a : List α) (p : α) (l : List α), (∀ (i : Nat) (x y : α), (a ++ [p])[i + 1]? = some x -> (a ++ [p])[i]? = some y -> r x y = false) -> a3p r (a ++ p :: l) = a ++ p :: dd r p l
 | [], p, l, _ => rfl
 | x :: a, p, l, h => by
   have h2 := a6b a p l (fun i u v h1 h2 => h (i + 1) u v (by simpa using h1) (by simpa using h2))
   cases a with
   | nil =>
     have h0 := h 0 p x rfl rfl
     show x :: dd r x (p :: l) = _
     simp [dd, h0]
   | cons y a =>
     have h0 := h 0 y x rfl rfl
     show x :: dd r x (y :: (a ++ p :: l)) = _
     simp only [dd, h0, Bool.false_eq_true, if_false]
     have h2' : y :: dd r y (a ++ p :: l) = y :: a ++ p :: dd r p l := h2
     rw [h2']
     rfl
end
end Go.Pl
namespace Go.Pl
open Go Go.RowKit Go.Sx Go.Qx
theorem b6Z {α : Type} (c : α -> α -> Int) (out : List α) (x : α) : (a2v c out x).length <= out.length + 1 := by
 unfold a2v
 split
 ·split
  ·omega
  ·rw [b1P]; omega
 ·rw [b1P]; omega
section
variable {α : Type} {r : α -> α -> Bool}
theorem b6e {step : List α × Int -> Option (Fl (List α × Int) (Sum (List α) (List α × List α)))} (s : List α) (hl : 1 <= s.length)
 (hst : ∀ (i : Nat) (x y : α), 1 <= i -> s[i]? = some x -> s[i - 1]? = some y -> r x y = false -> step (s, (i : Int)) = some (.next (s, ((i + 1 : Nat) : Int))))
 (hhit : ∀ (i : Nat) (x y : α), 1 <= i -> s[i]? = some x -> s[i - 1]? = some y -> r x y = true -> ∃ q, step (s, (i : Int)) = some (.done (.inr (q, s.take i ++ dd r x (s.drop (i + 1))))))
 (hend : step (s, (s.length : Int)) = some (.done (.inl s))) :
 (j5 step (s.length + 1) (s, 1) = some (.inl s) /\ a3p r s = s) \/ ∃ q, j5 step (s.length + 1) (s, 1) = some (.inr (q, a3p r s)) := by
 have key : ∀ (m i fuel : Nat), i + m = s.length -> 1 <= i -> m + 1 <= fuel -> (∀ j : Nat, (hj : j + 1 < s.length) -> j + 1 < i -> r s[j + 1] (s[j]'(by omega)) = false) ->
  (j5 step fuel (s, (i : Int)) = some (.inl s) /\ a3p r s = s) \/ ∃ q, j5 step fuel (s, (i : Int)) = some (.inr (q, a3p r s)) := by
  intro m
  induction m with
  | zero =>
    intro i fuel hm hi hf hok
    obtain ⟨fuel, rfl⟩ : ∃ m, fuel = m + 1 := ⟨fuel - 1, by omega⟩
    have e : i = s.length := by omega
    subst e
    left
    refine ⟨by simp only [j5, hend, Option.bind_some], ?_⟩
    have h1 : s.length - 1 < s.length := by omega
    have hs : s = s.take (s.length - 1) ++ s[s.length - 1] :: [] := by
     have := a0z (List.getElem?_eq_getElem h1)
     rw [show s.length - 1 + 1 = s.length by omega, List.take_length] at this
     exact this
    have hc := a6b (r := r) (s.take (s.length - 1)) s[s.length - 1] [] (by
     rw [<- hs]
     intro j x y h1 h2
     have hj := (List.getElem?_eq_some_iff.1 h1).1
     rw [List.getElem?_eq_getElem hj] at h1
     rw [List.getElem?_eq_getElem (by omega)] at h2
     cases h1; cases h2
     exact hok j hj (by omega))
    rw [<- hs] at hc
    rw [hc]
    exact hs.symm
  | succ m ih =>
    intro i fuel hm hi hf hok
    obtain ⟨fuel, rfl⟩ : ∃ m, fuel = m + 1 := ⟨fuel - 1, by omega⟩
    have hlt : i < s.length := by omega
    have hlt2 : i - 1 < s.length := by omega
    have hx := List.getElem?_eq_getElem hlt
    have hy := List.getElem?_eq_getElem hlt2
    by_cases h : r s[i] s[i - 1] = true
    ·right
     obtain ⟨q, hq⟩ := hhit i _ _ hi hx hy h
     refine ⟨q, ?_⟩
     simp only [j5, hq, Option.bind_some]
     have hs : s = s.take (i - 1) ++ s[i - 1] :: s[i] :: s.drop (i + 1) := by
      have e1 := List.take_append_drop (i - 1) s
      have e2 := List.drop_eq_getElem_cons hlt2
      have e3 := List.drop_eq_getElem_cons hlt
      rw [show i - 1 + 1 = i by omega, e3] at e2
      rw [<- e2]
      exact e1.symm
     have hc := a6b (r := r) (s.take (i - 1)) s[i - 1] (s[i] :: s.drop (i + 1)) (by
      have e : s.take (i - 1) ++ [s[i - 1]] = s.take i := by
       have := a0z hy
       rw [show i - 1 + 1 = i by omega] at this
       exact this.symm
      rw [e]
      intro j x y h1 h2
      have hj := (List.getElem?_eq_some_iff.1 h1).1
      have hj' : j + 1 < i := by rw [List.length_take] at hj; omega
      rw [List.getElem?_take_of_lt hj', List.getElem?_eq_getElem (by omega)] at h1
      rw [List.getElem?_take_of_lt (by omega), List.getElem?_eq_getElem (by omega)] at h2
      cases h1; cases h2
      exact hok j (by omega) hj')
     rw [<- hs] at hc
     rw [hc]
     have e : s.take i = s.take (i - 1) ++ [s[i - 1]] := by
      have := a0z hy
      rw [show i - 1 + 1 = i by omega] at this
      exact this
     rw [e, List.append_assoc]
     simp only [dd, h, if_true]
     rfl
    ·have h' : r s[i] s[i - 1] = false := by simpa using h
     simp only [j5, hst i _ _ hi hx hy h', Option.bind_some]
     refine ih (i + 1) fuel (by omega) (by omega) (by omega) (fun j hj hji => ?_)
     by_cases e : j + 1 < i
     ·exact hok j hj e
     ·have : j + 1 = i := by omega
      subst this
      exact h'
 exact key (s.length - 1) 1 (s.length + 1) (by omega) (Nat.le_refl _) (by omega) (fun j _ h => by omega)
theorem b7Y {β γ : Type} (z : α) (j n : Nat) (s' T : List α) (hl : s'.length = n) (hj : j < n) (ht : s'.take j = T) :
 ∃ q, (Option.bind (idx s' (j : Int)) fun _ => bif Nat.blt (j : Int).toNat s'.length then (Option.bind (cut (s'.take (j : Int).toNat ++ List.replicate (s'.length - (j : Int).toNat) z) 0 (j : Int)) fun y =>
  some (Fl.done (Sum.inr (s'.take (j : Int).toNat ++ List.replicate (s'.length - (j : Int).toNat) z, y)) : Fl β (Sum γ (List α × List α)))) else none) = some (.done (.inr (q, T))) := by
 refine ⟨s'.take j ++ List.replicate (s'.length - j) z, ?_⟩
 have e : (j : Int).toNat = j := by omega
 rw [w8 (List.getElem?_eq_getElem (show j < s'.length by omega)), e]
 simp only [Option.bind_some]
 have eb : Nat.blt j s'.length = true := by simp [Nat.blt]; omega
 rw [eb, b8K _ (by simp; omega)]
 simp only [cond_true, Option.bind_some]
 rw [List.take_append_of_le_length (by simp; omega), List.take_take, Nat.min_self, ht]
end
theorem a9q (n : Nat) (h : n <= 4611686018427387904) (h1 : 1 <= n) : w64 ((n : Int) - 1) = ((n - 1 : Nat) : Int) := by rw [a3n (by omega) (by omega)]; omega
end Go.Pl
end
section
namespace Go.Pl
open Go Go.RowKit Go.Sx Go.Qx
section
variable {L : List Int} {t : Api_Type} {N b : Nat} {h : Nat} {rN : Semtypebase_Source -> Api_Type -> Int -> Int -> Option (Val × Semtypebase_Source)}
end
end Go.Pl
namespace Go.Pl
open Go Go.RowKit Go.Sx Go.Qx
structure GT (t : Api_Type) : Prop where
 len : t.Nodes.length <= 10
 nodes : GNs t.Nodes.length t.Nodes
section
variable {L : List Int} {t : Api_Type}
end
end Go.Pl
namespace Go.Pl
open Go Go.RowKit Go.Sx Go.Qx
section
variable {L : List Int} {t : Api_Type}
end
end Go.Pl
end
section
namespace Go.Pl
open Go Go.RowKit Go.Sx Go.Qx
theorem b1h {α β : Type} {step : Int -> Option (Fl Int (Sum Unit β))} (xs : List α) (p : α -> Bool) (out : Nat -> α -> β)
 (hst : ∀ (i : Nat) (x : α), xs[i]? = some x -> step (i : Int) = some (if p x = true then .done (.inr (out i x)) else .next ((i + 1 : Nat) : Int)))
 (hend : step (xs.length : Int) = some (.done (.inl ()))) :
 (∃ i x, xs[i]? = some x /\ p x = true /\ (∀ j, j < i -> ∀ y, xs[j]? = some y -> p y = false) /\ j5 step (xs.length + 1) 0 = some (.inr (out i x))) \/ (xs.any p = false /\ j5 step (xs.length + 1) 0 = some (.inl ())) := by
 have key : ∀ (m a k : Nat), a + m = xs.length -> m + 1 <= k -> (∀ j, j < a -> ∀ y, xs[j]? = some y -> p y = false) ->
  (∃ i x, xs[i]? = some x /\ p x = true /\ (∀ j, j < i -> ∀ y, xs[j]? = some y -> p y = false) /\ j5 step k (a : Int) = some (.inr (out i x))) \/ (xs.any p = false /\ j5 step k (a : Int) = some (.inl ())) := by
  intro m
  induction m with
  | zero =>
    intro a k h1 h2 h3
    obtain ⟨k, rfl⟩ : ∃ m, k = m + 1 := ⟨k - 1, by omega⟩
    have e : a = xs.length := by omega
    subst e
    refine .inr ⟨?_, by simp only [j5, hend, Option.bind_some]⟩
    rw [List.any_eq_false]
    intro x hx
    obtain ⟨j, hj, rfl⟩ := List.getElem_of_mem hx
    have := h3 j hj _ (List.getElem?_eq_getElem hj)
    simp [this]
  | succ m ih =>
    intro a k h1 h2 h3
    obtain ⟨k, rfl⟩ : ∃ m, k = m + 1 := ⟨k - 1, by omega⟩
    have ha : a < xs.length := by omega
    have ex := List.getElem?_eq_getElem ha
    have hs := hst a _ ex
    cases hp : p xs[a] with
    | true =>
      rw [if_pos hp] at hs
      exact .inl ⟨a, xs[a], ex, hp, h3, by simp only [j5, hs, Option.bind_some]⟩
    | false =>
      rw [if_neg (by simp [hp])] at hs
      simp only [j5, hs, Option.bind_some]
      refine ih (a + 1) k (by omega) (by omega) fun j hj y hy => ?_
      by_cases hja : j = a
      ·subst hja
       rw [ex] at hy
       cases hy
       exact hp
      ·exact h3 j (by omega) y hy
 exact key xs.length 0 (xs.length + 1) (by omega) (Nat.le_refl _) (fun j hj => by omega)
theorem b3F {α : Type} {xs : List α} {p : α -> Bool} {i : Nat} {x : α} (h : xs[i]? = some x) (hp : p x = true) : xs.any p = true := List.any_eq_true.2 ⟨x, List.mem_of_getElem? h, hp⟩
theorem b6N (i : Nat) : decide ((0 : Int) <= (i : Int)) = true := decide_eq_true (by omega)
theorem b5n (l : List Int) (f : Int -> Option Bool) (p : Int -> Bool) (hl : l.length <= 4194304) (hf : ∀ x ∈ l, f x = some (p x)) : Z3 l f = some (l.any p) := by
 unfold Z3 a0F
 rw [a05]
 rcases b1h (step := V5 l f) l p (fun i _ => (i : Int)) (fun i x hx => by
  have hi : i < l.length := (List.getElem?_eq_some_iff.1 hx).1
  unfold V5
  rw [J3 hi, w8 hx]
  simp only [cond_true, Option.bind_some, X0]
  rw [Y6 i (by omega), hf x (List.mem_of_getElem? hx)]
  cases p x <;> rfl) (by
  unfold V5
  simp) with ⟨i, x, hx, hp, _, e⟩ | ⟨h, e⟩
 ·rw [e, b3F hx hp]
  simp only [Option.bind_some, w9, b6N]
 ·rw [e, h]
  rfl
end Go.Pl
namespace Go.Pl
open Go Go.RowKit Go.Sx Go.Qx
section
variable (μ : Val -> Int -> Bool)
end
theorem b5Z {α β : Type} {l : List α} {m : List β} {i : Nat} {p : α × β} (h : (l.zip m)[i]? = some p) : l[i]? = some p.1 /\ m[i]? = some p.2 := by
 obtain ⟨a, b⟩ := p
 rw [List.getElem?_zip_eq_some] at h
 exact h
section
variable {t : Api_Type} {f0 b : Nat}
end
end Go.Pl
namespace Go.Pl
open Go Go.RowKit Go.Sx Go.Qx
section
variable {t : Api_Type}
theorem GT.ord (hT : GT t) {k : Nat} {x : Api_TypeNode} (hx : t.Nodes[k]? = some x) (hb : isB x = true) {j : Int} (hj : j ∈ x.Kids) : ∃ j' : Nat, j = (j' : Int) /\ k < j' /\ j' < t.Nodes.length := by
 have hg := hT.nodes k x hx
 obtain ⟨j', e, h1⟩ := b7X (b48 hg.ok j hj)
 have := hg.ord hb j hj
 exact ⟨j', e, by omega, h1⟩
theorem b7z {α : Type} (p : α -> Bool) (l : List α) : (!(l.any fun x => !p x)) = l.all p := by
 rw [Bool.eq_iff_iff]
 simp
end
end Go.Pl
namespace Go.Pl
open Go Go.RowKit Go.Sx Go.Qx
section
variable {t : Api_Type}
theorem GT.all (hT : GT t) : b9L t.Nodes = true := List.all_eq_true.2 fun x hx => by
 obtain ⟨i, hi, rfl⟩ := List.getElem_of_mem hx
 exact (hT.nodes i _ (List.getElem?_eq_getElem hi)).ok
end
end Go.Pl
end
section
namespace Go.Pl
open Go Go.RowKit Go.Sx Go.Qx
theorem b5a : CmpOk cI := ⟨fun x y => by
 rcases W2 x y with ⟨_, h⟩ | ⟨_, h⟩ | ⟨_, h⟩ <;> rcases W2 y x with ⟨_, k⟩ | ⟨_, k⟩ | ⟨_, k⟩ <;> rw [h, k] <;> omega,
 fun x y z h1 h2 => by
  rcases W2 x y with ⟨_, h⟩ | ⟨_, h⟩ | ⟨_, h⟩ <;> rcases W2 y z with ⟨_, k⟩ | ⟨_, k⟩ | ⟨_, k⟩ <;> rcases W2 x z with ⟨_, l⟩ | ⟨_, l⟩ | ⟨_, l⟩ <;> rw [h] at h1 <;> rw [k] at h2 <;> rw [l] <;> omega,
 fun _ _ h => cI0 h⟩
abbrev a7c (x y : Int) : Bool := decide (cI x y = 0)
theorem b4v (x y : Int) : (x == y) = decide (cI x y = 0) := by
 rcases W2 x y with ⟨h, k⟩ | ⟨h, k⟩ | ⟨h, k⟩
 ·rw [k]; simp; omega
 ·rw [k]; simp; omega
 ·rw [k]; simp [h]
theorem b8S (s0 : List Int) (i0 n : Nat) (hn : n <= 4194304) (i k : Nat) (s : List Int) (x y : Int) (hl : s.length = n) (hk : i0 + k < n) (h1 : 1 <= k) (hi : i < i0 + k) (hx : s[i0 + k]? = some x) (hy : s[i0 + k - 1]? = some y) :
 Q2 (s0, (i0 : Int)) (((i : Int), (k : Int)), s) = some (.next (if a7c x y = true then (((i : Int), ((k + 1 : Nat) : Int)), s) else ((((i + 1 : Nat) : Int), ((k + 1 : Nat) : Int)), s.set i x))) := by
 unfold Q2
 simp only [b1a, X0, Int.toNat_natCast]
 have hdl : (s.drop i0).length = n - i0 := by rw [List.length_drop, hl]
 rw [if_pos (decide_eq_true (by show (k : Int) < (((s.drop i0).length : Nat) : Int); rw [hdl]; omega)), Y6 i (by omega), Y6 k (by omega), a9q k (by omega) h1]
 simp only [Int.toNat_natCast]
 have a1 : idx (s.drop i0) (k : Int) = some x := w8 (by rw [List.getElem?_drop]; exact hx)
 have a2 : idx (s.drop i0) ((k - 1 : Nat) : Int) = some y := w8 (by rw [List.getElem?_drop, show i0 + (k - 1) = i0 + k - 1 by omega]; exact hy)
 have a3 : idx s (i : Int) = some (s[i]'(by omega)) := w8 (List.getElem?_eq_getElem (by omega))
 rw [a1, a2, a3, hx, show i0 + (k - 1) = i0 + k - 1 by omega, hy, List.getElem?_eq_getElem (show i < s.length by omega)]
 simp only [Option.bind_some, bne]
 rw [b4v]
 by_cases h : cI x y = 0 <;> simp [a7c, h]
theorem b3S (l : List Int) (hl : l.length <= 4194304) : a0e l = some (a3p a7c l) := by
 unfold a0e
 by_cases h2 : (l.length : Int) < 2
 ·have e : decide ((l.length : Int) < 2) = true := by simpa using h2
  rw [e]
  match l, h2 with
  | [], _ => rfl
  | [_], _ => rfl
  | _ :: _ :: _, h => exact absurd h (by simp; omega)
 ·have e : decide ((l.length : Int) < 2) = false := by simpa using h2
  rw [e, a05]
  simp only [cond_false]
  have key := b6e (r := a7c) (step := K4) l (by omega) ?_ ?_ ?_
  ·rcases key with ⟨h, hc⟩ | ⟨q, h⟩
   ·rw [h, hc]; rfl
   ·rw [h]; rfl
  ·intro i x y hi hx hy hr
   have hlt : i < l.length := (List.getElem?_eq_some_iff.1 hx).1
   unfold K4
   simp only [b1a, X0, Int.toNat_natCast]
   rw [if_pos (by simp; omega), a9q i (by omega) hi, w8 hx, w8 hy]
   simp only [Int.toNat_natCast, hx, hy, Option.bind_some]
   rw [b4v]
   have hr' : decide (cI x y = 0) = false := hr
   rw [hr', Y6 i (by omega)]
   rfl
  ·intro i x y hi hx hy hr
   have hlt : i < l.length := (List.getElem?_eq_some_iff.1 hx).1
   unfold K4
   simp only [b1a, X0, Int.toNat_natCast]
   rw [if_pos (by simp; omega), a9q i (by omega) hi, w8 hx, w8 hy]
   simp only [Int.toNat_natCast, hx, hy, Option.bind_some]
   rw [b4v]
   have hr' : decide (cI x y = 0) = true := hr
   rw [hr', if_pos rfl]
   obtain ⟨s', e1, e2, e3⟩ := b5X (r := a7c) (step := Q2 (l, (i : Int))) i l.length (fun i' k s x y a1 a2 a3 a4 a5 a6 => b8S l i l.length hl i' k s x y a1 a2 a3 a4 a5 a6)
    (fun i' k s a1 a2 => by
      unfold Q2
      simp only [Int.toNat_natCast]
      have : decide ((k : Int) < (((s.drop i).length : Nat) : Int)) = false := by rw [List.length_drop]; simp; omega
      rw [this]
      rfl) (l.length - (i + 1)) i 1 l x ((l.drop i).length + 1) rfl (by omega) (Nat.le_refl _) (by omega) (by simpa using hx) (by rw [List.length_drop]; omega)
   have e1' : j5 (Q2 (l, (i : Int))) ((l.drop i).length + 1) (((i : Int), 1), l) = _ := e1
   rw [e1']
   simp only [Option.bind_some, <- b1a]
   have hd := b6a (r := a7c) (l.drop (i + 1)) x
   rw [List.length_drop] at hd
   exact b7Y (0 : Int) _ l.length s' _ e2 (by omega) e3
  ·unfold K4
   simp
theorem b4U (l : List Int) : (l.mergeSort fun x y => decide (x <= y)).Pairwise fun a b => ¬ cI b a < 0 := by
 refine (List.pairwise_mergeSort (le := fun x y : Int => decide (x <= y)) (fun a b c h1 h2 => ?_) (fun a b => ?_) l).imp fun {a b} h => ?_
 ·simp only [decide_eq_true_eq] at *
  omega
 ·simp only [Bool.or_eq_true, decide_eq_true_eq]
  omega
 ·simp only [decide_eq_true_eq] at h
  rcases W2 b a with ⟨_, k⟩ | ⟨_, k⟩ | ⟨_, k⟩ <;> rw [k] <;> omega
def srt (l : List Int) : List Int := l.foldl (a2v cI) []
theorem b0c (l : List Int) (hl : l.length <= 4194304) : a2L l = some (srt l) := by
 unfold a2L a2d
 rw [a1p (by omega)]
 simp only [Option.bind_some]
 unfold b1r a5u
 have e : decide (l.length < 4611686018427387904) = true := by simp; omega
 rw [e]
 simp only [cond_true, Option.bind_some]
 have hp := List.mergeSort_perm l fun x y : Int => decide (x <= y)
 rw [b3S _ (by rw [hp.length_eq]; exact hl)]
 simp only [Option.bind_some]
 unfold a1Q
 have := b3V b5a hp (b4U l)
 rw [show a3p (fun x y => decide (cI x y = 0)) = a3p a7c from rfl] at this
 rw [this]
 simp [srt]
theorem b7J (l : List Int) : asc cI (srt l) = true := (b4A (c := cI) b5a l).1
theorem a22 (l : List Int) (y : Int) : y ∈ srt l ↔ y ∈ l := (b4A (c := cI) b5a l).2 y
theorem b4f (l : List Int) : srt (srt l) = srt l := b66 b5a (b7J l)
theorem b4m (l : List Int) : (srt l).length <= l.length := by
 have key : ∀ (l out : List Int), (l.foldl (a2v cI) out).length <= out.length + l.length := by
  intro l
  induction l with
  | nil => intro out; simp
  | cons x r ih =>
    intro out
    have h1 := ih (a2v cI out x)
    have h2 := b6Z cI out x
    simp only [List.foldl_cons, List.length_cons]
    omega
 have := key l []
 simpa [srt] using this
end Go.Pl
end
section
namespace Go.Pl
open Go Go.RowKit Go.Sx Go.Qx
abbrev g0 (p q : List Int) : Api_Goal := Api_Goal.mk p q false
theorem a8f {α : Type} {step : Int -> Option (Fl Int (Sum Unit Bool))} (xs : List α) (p : α -> Bool) (b : Bool) (hst : ∀ (i : Nat) (x : α), xs[i]? = some x -> step (i : Int) = some (if p x = true then Fl.next ((i + 1 : Nat) : Int) else Fl.done (.inr b)))
 (hend : step (xs.length : Int) = some (.done (.inl ()))) : j5 step (xs.length + 1) 0 = some (if xs.all p = true then .inl () else .inr b) :=
 b6n (step := step) xs p (fun i => (i : Int)) () b hst hend
theorem b54 (p q : List Int) (b : Bool) (h1 : p.length <= 4194304) (h2 : q.length <= 4194304) : a4k (Api_Goal.mk p q b) = some (Api_Goal.mk (srt p) (srt q) b) := by
 unfold a4k
 rw [b0c p h1, b0c q h2]
 rfl
theorem b2G (l : List Int) (x : Int) (hl : l.length <= 4194304) : a0a l x = some (l.any fun y => x == y) := by
 unfold a0a a1D
 rw [a05]
 rcases b1h (step := X9 l x) l (fun y => x == y) (fun i _ => (i : Int)) (fun i y hy => by
  have hi : i < l.length := (List.getElem?_eq_some_iff.1 hy).1
  unfold X9
  rw [J3 hi, w8 hy]
  simp only [cond_true, Option.bind_some, X0]
  rw [Y6 i (by omega)]
  cases x == y <;> rfl) (by
  unfold X9
  simp) with ⟨i, y, hy, hp, _, e⟩ | ⟨h, e⟩
 ·rw [e, b3F hy hp]
  simp only [Option.bind_some, w9, b6N]
 ·rw [e, h]
  rfl
def a5d (p q : List Int) : Bool := p.any fun x => q.any fun y => x == y
theorem b4n (p q : List Int) (h1 : p.length <= 4194304) (h2 : q.length <= 4194304) : a2P p q = some (a5d p q) := by
 unfold a2P
 rw [b5n p _ (fun x => q.any fun y => x == y) h1 fun x _ => by
  unfold a3u
  simp only [b4Z]
  exact b2G q x h2]
 rfl
theorem a1x {St β : Type} {step : St -> Option (Fl St β)} (st : Nat -> St) (n : Nat) (r : β) (hs : ∀ i, i < n -> step (st i) = some (.next (st (i + 1)))) (he : step (st n) = some (.done r)) (k : Nat) (hk : n + 1 <= k) : j5 step k (st 0) = some r := by
 have key : ∀ (m i k : Nat), i + m = n -> m + 1 <= k -> j5 step k (st i) = some r := by
  intro m
  induction m with
  | zero =>
    intro i k h1 h2
    obtain ⟨k, rfl⟩ : ∃ q, k = q + 1 := ⟨k - 1, by omega⟩
    have e : i = n := by omega
    subst e
    simp only [j5, he, Option.bind_some]
  | succ m ih =>
    intro i k h1 h2
    obtain ⟨k, rfl⟩ : ∃ q, k = q + 1 := ⟨k - 1, by omega⟩
    simp only [j5, hs i (by omega), Option.bind_some]
    exact ih (i + 1) k (by omega) (by omega)
 exact key n 0 k (by omega) hk
theorem b1Q {St β : Type} {step : St -> Option (Fl St β)} (st : Nat -> St) (bad : Nat -> Bool) (n : Nat) (r : β) (R : β -> Prop) (hs : ∀ i, i < n -> bad i = false -> step (st i) = some (.next (st (i + 1)))) (hb : ∀ i, i < n -> bad i = true -> ∃ q, step (st i) = some (.done q) /\ R q)
 (he : step (st n) = some (.done r)) (k : Nat) (hk : n + 1 <= k) : (j5 step k (st 0) = some r /\ ∀ i, i < n -> bad i = false) \/ ∃ q, j5 step k (st 0) = some q /\ R q /\ ∃ i, i < n /\ bad i = true := by
 have key : ∀ (m i k : Nat), i + m = n -> m + 1 <= k -> (∀ j, j < i -> bad j = false) -> (j5 step k (st i) = some r /\ ∀ i, i < n -> bad i = false) \/ ∃ q, j5 step k (st i) = some q /\ R q /\ ∃ i, i < n /\ bad i = true := by
  intro m
  induction m with
  | zero =>
    intro i k h1 h2 h3
    obtain ⟨k, rfl⟩ : ∃ q, k = q + 1 := ⟨k - 1, by omega⟩
    have e : i = n := by omega
    subst e
    exact .inl ⟨by simp only [j5, he, Option.bind_some], h3⟩
  | succ m ih =>
    intro i k h1 h2 h3
    obtain ⟨k, rfl⟩ : ∃ q, k = q + 1 := ⟨k - 1, by omega⟩
    cases hbi : bad i with
    | true =>
      obtain ⟨q, e, hR⟩ := hb i (by omega) hbi
      exact .inr ⟨q, by simp only [j5, e, Option.bind_some], hR, i, by omega, hbi⟩
    | false =>
      simp only [j5, hs i (by omega) hbi, Option.bind_some]
      refine ih (i + 1) k (by omega) (by omega) fun j hj => ?_
      by_cases e : j = i
      ·subst e; exact hbi
      ·exact h3 j (by omega)
 exact key n 0 k (by omega) hk (fun j hj => by omega)
theorem b5G {α : Type} (f : Nat -> α) (a j : Nat) (v : α) : ((List.range a).map f).set j v = (List.range a).map fun i => if i = j then v else f i := by
 apply List.ext_getElem?
 intro i
 rw [List.getElem?_set]
 by_cases hi : i < a
 ·by_cases e : j = i
  ·subst e; simp [hi]
  ·simp [e, hi, Ne.symm e]
 ·by_cases e : j = i
  ·subst e; simp [hi]
  ·simp [e, hi]
theorem a2m {l : List Int} {i : Nat} (h : i < l.length) : l[i]? = some (l.getD i 0) := by
 rw [List.getElem?_eq_getElem h]
 simp [List.getD, List.getElem?_eq_getElem h]
def a1E (g : Api_Goal) : Api_Goal := Api_Goal.mk (srt g.Pos) (srt g.Neg) g.Lists
end Go.Pl
end
section
namespace Go.Pl
open Go Go.RowKit Go.Sx Go.Qx
def dig : List Nat -> Nat -> List Int
 | [], _ => []
 | m :: ms, k => ((k % m : Nat) : Int) :: dig ms (k / m)
def tot : List Nat -> Nat
 | [] => 1
 | m :: ms => m * tot ms
def adv : List Int -> List Nat -> List Int × Bool
 | d :: ds, m :: ms => if d + 1 < (m : Int) then ((d + 1) :: ds, true) else (0 :: (adv ds ms).1, (adv ds ms).2)
 | ds, _ => (ds, false)
theorem b04 : ∀ (ms : List Nat) (k : Nat), (dig ms k).length = ms.length
 | [], _ => rfl
 | _ :: ms, k => by simp [dig, b04 ms]
theorem b22 : ∀ (ms : List Nat) (k : Nat), (∀ m ∈ ms, 1 <= m) -> ∀ (j : Nat) (d : Int) (m : Nat), (dig ms k)[j]? = some d -> ms[j]? = some m -> 0 <= d /\ d < (m : Int)
 | [], _, _, j, d, m, h, _ => by simp [dig] at h
 | m0 :: ms, k, h1, 0, d, m, h, hm => by
   simp only [dig, List.getElem?_cons_zero, Option.some.injEq] at h hm
   subst h; subst hm
   have := h1 m0 (by simp)
   have := Nat.mod_lt k (show 0 < m0 by omega)
   omega
 | m0 :: ms, k, h1, j + 1, d, m, h, hm => b22 ms (k / m0) (fun m hm => h1 m (by simp [hm])) j d m (by simpa [dig] using h) (by simpa using hm)
theorem b3q : ∀ (ms : List Nat) (ds : List Int), ds.length = ms.length -> (∀ (j : Nat) (d : Int) (m : Nat), ds[j]? = some d -> ms[j]? = some m -> 0 <= d /\ d < (m : Int)) -> ∃ k, k < tot ms /\ dig ms k = ds
 | [], [], _, _ => ⟨0, by simp [tot], rfl⟩
 | [], _ :: _, h, _ => by simp at h
 | _ :: _, [], h, _ => by simp at h
 | m :: ms, d :: ds, h, hd => by
   obtain ⟨k, h1, h2⟩ := b3q ms ds (by simpa using h) fun j e m' he hm => hd (j + 1) e m' (by simpa using he) (by simpa using hm)
   obtain ⟨d1, d2⟩ := hd 0 d m rfl rfl
   obtain ⟨e, rfl⟩ : ∃ e : Nat, d = (e : Int) := ⟨d.toNat, by omega⟩
   have hem : e < m := by omega
   refine ⟨m * k + e, ?_, ?_⟩
   ·simp only [tot]
    have : m * (k + 1) <= m * tot ms := Nat.mul_le_mul_left m h1
    rw [Nat.mul_add, Nat.mul_one] at this
    omega
   ·simp only [dig]
    have e1 : (m * k + e) % m = e := by rw [Nat.mul_add_mod, Nat.mod_eq_of_lt hem]
    have e2 : (m * k + e) / m = k := by rw [Nat.mul_add_div (by omega), Nat.div_eq_of_lt hem, Nat.add_zero]
    rw [e1, e2, h2]
theorem b4b : ∀ ms : List Nat, (∀ m ∈ ms, 1 <= m) -> 1 <= tot ms
 | [], _ => by simp [tot]
 | m :: ms, h => by
   have h1 := h m (by simp)
   have h2 := b4b ms fun x hx => h x (by simp [hx])
   simp only [tot]
   exact Nat.mul_le_mul h1 h2
theorem b1u : ∀ (ms : List Nat) (k : Nat), (∀ m ∈ ms, 1 <= m) -> k < tot ms -> (k + 1 < tot ms -> adv (dig ms k) ms = (dig ms (k + 1), true)) /\ (¬ k + 1 < tot ms -> (adv (dig ms k) ms).2 = false)
 | [], k, _, h => by simp only [tot] at h ⊢; exact ⟨fun h => by omega, fun _ => rfl⟩
 | m :: ms, k, h1, hk => by
   have hm := h1 m (by simp)
   have h1' : ∀ x ∈ ms, 1 <= x := fun x hx => h1 x (by simp [hx])
   simp only [tot] at hk ⊢
   have hkm : k / m < tot ms := Nat.div_lt_of_lt_mul hk
   have hdm := Nat.div_add_mod k m
   have hml := Nat.mod_lt k (show 0 < m by omega)
   obtain ⟨i1, i2⟩ := b1u ms (k / m) h1' hkm
   by_cases hc : k % m + 1 < m
   ·have e1 : (k + 1) % m = k % m + 1 := by rw [Nat.add_mod, Nat.mod_eq_of_lt (show 1 < m by omega), Nat.mod_eq_of_lt (by omega)]
    have e2 : (k + 1) / m = k / m := by
     have : k + 1 = m * (k / m) + (k % m + 1) := by omega
     rw [this, Nat.mul_add_div (by omega), Nat.div_eq_of_lt hc, Nat.add_zero]
    have e3 : adv (dig (m :: ms) k) (m :: ms) = ((((k % m : Nat) : Int) + 1) :: dig ms (k / m), true) := by
     simp only [dig, adv]
     rw [if_pos (by omega)]
    refine ⟨fun _ => ?_, fun hn => ?_⟩
    ·rw [e3]
     simp only [dig]
     rw [e1, e2]
     rfl
    ·exfalso
     apply hn
     have : m * (k / m + 1) <= m * tot ms := Nat.mul_le_mul_left m hkm
     rw [Nat.mul_add, Nat.mul_one] at this
     omega
   ·have hkm1 : k % m + 1 = m := by omega
    have e0 : k + 1 = m * (k / m + 1) := by rw [Nat.mul_add, Nat.mul_one]; omega
    have e1 : (k + 1) % m = 0 := by rw [e0]; simp
    have e2 : (k + 1) / m = k / m + 1 := by rw [e0, Nat.mul_div_cancel_left _ (by omega)]
    have e3 : adv (dig (m :: ms) k) (m :: ms) = (0 :: (adv (dig ms (k / m)) ms).1, (adv (dig ms (k / m)) ms).2) := by
     simp only [dig, adv]
     rw [if_neg (by omega)]
    have e4 : k + 1 < m * tot ms ↔ k / m + 1 < tot ms := by
     rw [e0]
     exact ⟨fun h => Nat.lt_of_mul_lt_mul_left h, fun h => Nat.mul_lt_mul_of_pos_left h (by omega)⟩
    rw [e3]
    refine ⟨fun h => ?_, fun h => ?_⟩
    ·rw [i1 (e4.1 h)]
     simp only [dig]
     rw [e1, e2]
     rfl
    ·exact i2 fun h' => h (e4.2 h')
theorem b2V : ∀ ms : List Nat, dig ms 0 = List.replicate ms.length 0
 | [] => rfl
 | m :: ms => by simp [dig, b2V ms, List.replicate_succ]
end Go.Pl
end
