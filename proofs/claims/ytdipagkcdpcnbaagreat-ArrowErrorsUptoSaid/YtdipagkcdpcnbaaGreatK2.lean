/- Part 2. -/
import Derived.Test.YtdipagkcdpcnbaaGreatK0
import Derived.Test.YtdipagkcdpcnbaaGreatK1
import Derived.ChangeKeysEq
import Derived.KernelRfl
import Derived.Lib.Bytealg
import Derived.Shelf.SlSortCmp.NoneTotal
import Derived.Shelf.Slices.In.SortNone
import Derived.Shelf.Sort.Plain
section
namespace Go.Qx
open Go Go.RowKit Go.Sx
section
variable {I : TypeId -> Type} [∀ E, Rp (I E)]
def c1N (rs : List V) (p : PV I) : Option (List (PV I)) := match rs with
 | [_] => some [p]
 | _ => match p with
   | .tup ls => some ls
   | _ => none
def c0d (tb : Tab I) : (ks : List Kd) -> Tys I ks -> List (PV I)
 | [], _ => []
 | k :: ks, q => b1x tb k q.1 :: c0d tb ks q.2
def c6l (tb : Tab I) (rs : List V) (e : Ef I) : Option (TyT I rs) :=
 bif a8O e.upd && a8O e.new then Option.bind (c1N rs e.p) fun ps => Option.bind (a3D tb (fun _ => none) rs ps) fun x => bif a8O x.2.1 && a8O x.2.2 then some x.1 else none else none
def b9Q (tb : Tab I) (disp : a0T I) (O : Obs I) (nb : Nat) (f : FuncId) (ls : List (PV I)) (ks : List Kd) (rs : List V) : Fun I ks (TyT I rs) := cur ks fun q => disp (TyT I rs) f O nb (c0d tb ks q ++ ls) (c6l tb rs)
structure AccT where
 pub : List Nat
 all : List (Option Nat)
 gv : List (Nat × TypeId × V)
 rv : List Nat
def c0j (ks : List Kd) (rs : List V) (ks' : List Kd) (rs' : List V) (g : Fun I ks' (TyT I rs')) : Option (Fun I ks (TyT I rs)) := if h : ks' = ks /\ rs' = rs then some (h.1 ▸ h.2 ▸ g) else none
def c3r (tb : Tab I) (O : Obs I) (T : TypeId) (v : V) (w : Bool) (p : PV I) : Option (TyV I v × AccT) := match p with
 | .ptr l 0 => match O l with
   | some (some (.var T' ls w')) => bif Nat.beq T T' && (w' || !w) then Option.bind (b5K v ls) fun p => Option.bind (b6l tb O v p) fun x =>
      bif w then some (x.1, ⟨x.2.1, some l :: x.2.2, [(l, T, v)], []⟩) else bif a8O x.2.2 then some (x.1, ⟨x.2.1, [none], [], [l]⟩) else none else none
   | _ => none
 | _ => none
def c0C (O : Obs I) (E : TypeId) (p : PV I) : Option (List (I E) × List Nat) := match p with
 | .vw l => match O l with
   | some (some (.row E' xs _)) => Option.bind (a3R E E' xs) fun ys => some (ys, [l])
   | some (some (.ro E' xs)) => Option.bind (a3R E E' xs) fun ys => some (ys, [])
   | some (some (.bo E' xs)) => Option.bind (a3R E E' xs) fun ys => some (ys, [])
   | _ => none
 | .sl E' xs _ => Option.bind (a3R E E' xs) fun ys => some (ys, [])
 | .nl _ => some ([], [])
 | _ => none
def a8Q (tb : Tab I) (disp : a0T I) (O Oc : Obs I) (nb : Nat) : (ps : List Pk) -> List (PV I) -> Option (a2q I ps × AccT)
 | [], [] => some ((), ⟨[], [], [], []⟩)
 | .d k :: r, p :: ps => Option.bind (b7w tb O k p) fun x => Option.bind (a8Q tb disp O Oc nb r ps) fun y => some ((x.1, y.1), ⟨x.2 ++ y.2.pub, y.2.all, y.2.gv, y.2.rv⟩)
 | .var T v w :: r, p :: ps => Option.bind (c3r tb O T v w p) fun x => Option.bind (a8Q tb disp O Oc nb r ps) fun y => some ((x.1, y.1), ⟨x.2.pub ++ y.2.pub, x.2.all ++ y.2.all, x.2.gv ++ y.2.gv, x.2.rv ++ y.2.rv⟩)
 | .row E fl :: r, p :: ps => Option.bind (b1q tb O (.row E fl) p) fun x => Option.bind (a8Q tb disp O Oc nb r ps) fun y => some ((x.1, y.1), ⟨x.2.1 ++ y.2.pub, x.2.2 ++ y.2.all, y.2.gv, y.2.rv⟩)
 | .fn ks rs :: r, p :: ps => Option.bind (a8Q tb disp O Oc nb r ps) fun y => match p with
   | .fn ks' rs' g => Option.bind (c0j ks rs ks' rs' g) fun g' => some ((g', y.1), y.2)
   | .clo f ls => bif tb.fb f then some ((b9Q tb disp Oc nb f ls ks rs, y.1), y.2) else none
   | _ => none
 | .bor E :: r, p :: ps => Option.bind (c0C O E p) fun x => Option.bind (a8Q tb disp O Oc nb r ps) fun y => some ((x.1, y.1), ⟨y.2.pub, none :: y.2.all, y.2.gv, x.2 ++ y.2.rv⟩)
 | _, _ => none
def grN (O : Obs I) : List Pk -> List (PV I) -> List Nat
 | .var _ _ true :: r, .ptr l _ :: ps => (l :: nest O [l]) ++ grN O r ps
 | .row _ _ :: r, p :: ps => c1z p ++ grN O r ps
 | _ :: r, _ :: ps => grN O r ps
 | _, _ => []
def a2x : List (Option Nat) -> List (Nat × Option (Ob I))
 | [] => []
 | some l :: r => (l, none) :: a2x r
 | none :: r => a2x r
def a5F : List (Nat × TypeId × V) -> List (PV I) -> List (Nat × Option (Ob I))
 | x :: r, p :: ps => (x.1, some (.var x.2.1 (a6d x.2.2 p) true)) :: a5F r ps
 | _, _ => []
def b7S (gr : List Nat) (a : AccT) : Bool := a83 a.pub a.all && a.all.all (fun x => match x with | some l => K9 l gr | none => true) && a.rv.all (fun l => !(K9 l gr))
def b89 (tb : Tab I) (r : Row I) (disp : a0T I) (ρ : Type) (O : Obs I) (nb : Nat) (ps : List (PV I)) (k : Ef I -> Option ρ) : Option ρ :=
 Option.bind (a8Q tb disp O (roO [] (Y7 (grN O r.ps ps) O)) nb r.ps ps) fun a =>
 bif b7S (grN O r.ps ps) a.2 then Option.bind (b1P r.ps r.run a.1) fun res =>
  k ⟨a9w ((pvT tb nb (r.rs ++ Y0 r.ps) res).take r.rs.length), Q8 O a.2.pub ++ a2x a.2.all ++ a5F a.2.gv ((pvT tb nb (r.rs ++ Y0 r.ps) res).drop r.rs.length), obT (r.rs ++ Y0 r.ps) res⟩ else none
structure Ans (I : TypeId -> Type) where
 f : FuncId
 go : a0T I -> (ρ : Type) -> Obs I -> Nat -> List (PV I) -> (Ef I -> Option ρ) -> Option ρ
structure EntOk (P : Program) (e : Ans I) : Prop where
 par : ∀ (disp : a0T I) (ρ : Type) (O : Obs I) (nb : Nat) (ps : List (PV I)) (k : Ef I -> Option ρ), e.go disp ρ O nb ps k = (e.go disp (Ef I) O nb ps some).bind k
 ok : ∀ (disp : a0T I), DispOk P disp -> ∀ (O : Obs I) (nb : Nat) (ps : List (PV I)) (ef : Ef I), e.go disp (Ef I) O nb ps some = some ef -> c2L P e.f O nb ps ef
def b7D (f : FuncId) : List (Ans I) -> Option (Ans I)
 | [] => none
 | e :: r => bif Nat.beq e.f f then some e else b7D f r
def b88 (es : List (Ans I)) : Nat -> a0T I
 | 0 => fun _ _ _ _ _ _ => none
 | d + 1 => fun ρ f O nb ps k => match b7D f es with
   | some e => e.go (b88 es d) ρ O nb ps k
   | none => none
def j6 (tb : Tab I) (r : Row I) : Ans I := ⟨r.f, b89 tb r⟩
def b2f (tb : Tab I) (r : Row I) (chk : Obs I -> List (PV I) -> Bool) (disp : a0T I) (ρ : Type) (O : Obs I) (nb : Nat) (ps : List (PV I)) (k : Ef I -> Option ρ) : Option ρ := bif chk O ps then b89 tb r disp ρ O nb ps k else none
def c2g (tb : Tab I) (r : Row I) (chk : Obs I -> List (PV I) -> Bool) : Ans I := ⟨r.f, b2f tb r chk⟩
def c4R (P : Program) : List (Ans I) -> Prop
 | [] => True
 | e :: r => EntOk P e /\ c4R P r
variable {P : Program} {tb : Tab I} {X : Cxt} {c c' : Cx} {σ τ : S} {s : St I} {n : Nat} {F : Fr} {O : Obs I}
theorem b6j {f : FuncId} : ∀ {es : List (Ans I)} {e : Ans I}, c4R P es -> b7D f es = some e -> EntOk P e /\ e.f = f
 | [], _, _, h => by cases h
 | x :: r, e, ha, h => by
   simp only [b7D] at h
   cases hb : Nat.beq x.f f with
   | true => rw [hb] at h; cases h; exact ⟨ha.1, Nat.eq_of_beq_eq_true hb⟩
   | false => rw [hb] at h; exact b6j ha.2 h
theorem j0 {es : List (Ans I)} (h : c4R P es) : ∀ d, DispOk P (b88 es d)
 | 0 => ⟨fun _ _ _ _ _ _ => rfl, fun _ _ _ _ _ h => by cases h⟩
 | d + 1 => by
   refine ⟨fun ρ f O nb ps k => ?_, fun f O nb ps e he => ?_⟩
   ·simp only [b88]
    cases hf : b7D f es with
    | none => rfl
    | some e => exact (b6j h hf).1.par _ _ _ _ _ _
   ·simp only [b88] at he
    split at he
    ·rename_i x hx
     obtain ⟨h1, h2⟩ := b6j h hx
     rw [<- h2]
     exact h1.ok _ (j0 h d) O nb ps e he
    ·cases he
theorem c1k (ht : TabOk P tb) : ∀ {ks : List Kd} {q : Tys I ks} {vs : List Value}, DVs σ ks q vs -> RVs X c σ (c0d tb ks q) vs
 | [], _, _, h => by simpa only [c0d, RVs, DVs] using h
 | k :: ks, q, _, ⟨v, r, e, h1, h2⟩ => by
   simp only [c0d, RVs]
   exact ⟨v, r, e, b7R ht h1, c1k ht h2⟩
omit [∀ E, Rp (I E)] in
theorem c0z : ∀ {vs : List V} {ps : List (PV I)} {x}, a3D tb O vs ps = some x -> ps.length = vs.length
 | [], [], _, _ => rfl
 | [_], [_], _, _ => rfl
 | _ :: v' :: vs, p :: ps, _, h => by
   obtain ⟨y, hy, h⟩ := bind_some h
   obtain ⟨z, hz, h⟩ := bind_some h
   have := c0z (vs := v' :: vs) hz
   simp [this]
 | [], _ :: _, _, h => by simp [a3D] at h
 | [_], [], _, h => by simp [a3D] at h
 | [_], _ :: _ :: _, _, h => by simp [a3D] at h
 | _ :: _ :: _, [], _, h => by simp [a3D] at h
theorem c61 (ht : TabOk P tb) {disp : a0T I} (hd : DispOk P disp) (hX : X.P = P) (h : Rel X c σ s n F) {gr : List Nat} {Oc : Obs I} (hOc : ∀ l o, Oc l = some (some o) -> roO [] (Y7 gr s.O) l = some (some o)) {M : Nat -> Prop}
 (hM : ∀ b, M b -> σ.N <= b \/ ∃ l ∈ gr, Z9 s l /\ ∃ p, c l = some p /\ p.w = some b) {nb : Nat} {f : FuncId} {ls : List (PV I)} {cs : List Value} (hl : RVs X c σ ls cs) {ks : List Kd} {rs : List V} (hbody : a8J P f) : c3G P M σ f [] cs ks rs (b9Q tb disp Oc nb f ls ks rs) := by
 refine ⟨hbody, rfl, fun τ hτ q vs r hq hr => ?_⟩
 unfold b9Q at hr
 rw [c1e, hd.par] at hr
 obtain ⟨e, he, hr⟩ := bind_some hr
 have hMX : ∀ b, M b -> X.M b := fun b hb => by
  rcases hM b hb with hb | ⟨l, _, hlv, p, hc, hw⟩
  ·exact .inl (Nat.le_trans h.base hb)
  ·exact h.mine l p b hlv hc hw
 have h1 : Rel X c σ ⟨s.n, s.F, Y7 gr s.O, s.nx⟩ n F := h.less (fun l o ho => (Y4 ho).2) (fun l ho => a2j.1 ho)
 have hi1 : ∀ g, M g -> notIn c σ (⟨s.n, s.F, Y7 gr s.O, s.nx⟩ : St I) g := fun g hg => by
  rcases hM g hg with hb | ⟨l', hl', hlv, p', hc', hw'⟩
  ·exact (h.fresh hb).sub fun l E E' u xs q e => (Y4 e).2
  ·exact (h.owned hlv hc' hw').sub fun l E E' u xs q e => (Y4 e).2
 have h2 : Rel X c τ ⟨s.n, s.F, Y7 gr s.O, s.nx⟩ n F := h1.stepG hτ hMX (hi := hi1) fun l p g ⟨o, ho⟩ hc hw hm => by
  obtain ⟨k1, k2⟩ := Y4 ho
  have hlt := (h.objs l o k2).lt hc hw
  rcases hM g hm with hb | ⟨l', hl', hlv, p', hc', hw'⟩
  ·have : σ.N <= g := hb
   omega
  ·exact k1 (by rw [h.inj l l' p p' g ⟨o, k2⟩ hlv hc hc' hw hw']; exact hl')
 have h3 := enter h2 []
 have hlτ : RVs X c τ ls cs := RVs.step (hτ.mono fun b _ hb => hMX b hb) _ _ hl
 have hconv : RVs (J1 X c τ ⟨s.n, s.F, Y7 gr s.O, s.nx⟩ []) (roC [] c) τ ls cs := RVs.conv (X := X) (X' := J1 X c τ ⟨s.n, s.F, Y7 gr s.O, s.nx⟩ []) (c := c) rfl (a5U h2 []) (fun l p hp => ⟨none, by simp [roC, K9, hp]⟩) _ _ hlτ
 have hnil : e.upd = [] /\ e.new = [] /\ ∃ ps, c1N rs e.p = some ps /\ ∃ x, a3D tb (fun _ => none) rs ps = some x /\ x.2.1 = [] /\ x.2.2 = [] /\ x.1 = r := by
  unfold c6l at hr
  obtain ⟨hb, hr⟩ := k7 hr
  simp only [Bool.and_eq_true] at hb
  obtain ⟨ps, hps, hr⟩ := bind_some hr
  obtain ⟨x, hx, hr⟩ := bind_some hr
  obtain ⟨hb2, hr⟩ := k7 hr
  simp only [Bool.and_eq_true] at hb2
  cases hr
  exact ⟨a4U hb.1, a4U hb.2, ps, hps, x, hx, a4U hb2.1, a4U hb2.2, rfl⟩
 obtain ⟨n1, n2, ps, hps, x, hx, x1, x2, hxr⟩ := hnil
 have hc := hd.ok _ _ _ _ _ he (J1 X c τ ⟨s.n, s.F, Y7 gr s.O, s.nx⟩ []) (roC [] c) τ (roS [] ⟨s.n, s.F, Y7 gr s.O, s.nx⟩) n F (vs ++ cs) hX hOc h3 (RVs.app _ _ _ _ (c1k ht hq) hconv) (by rw [n2]; rfl)
 rw [<- List.nil_append vs] at hc
 refine a5B.mono hc rfl fun v υ hst ⟨c', _, hrel, hv⟩ => ⟨υ, rfl, hst.mono fun b hb hm => ?_, ?_⟩
 ·rcases hm with hm | ⟨_, hm, _⟩
  ·have : τ.N <= b := hm
   omega
  ·cases hm
 ·have hlen := c0z hx
  have hws : ∃ ws, v = b0T ws /\ RVs (J1 X c τ ⟨s.n, s.F, Y7 gr s.O, s.nx⟩ []) c' υ ps ws := by
   unfold c1N at hps
   split at hps
   ·cases hps
    exact ⟨[v], rfl, by simp only [RVs]; exact ⟨v, [], rfl, hv, rfl⟩⟩
   ·rename_i hne
    split at hps
    ·rename_i ls' e'
     cases hps
     rw [e'] at hv
     simp only [RV] at hv
     obtain ⟨ws, rfl, hws⟩ := hv
     refine ⟨ws, ?_, hws⟩
     have hl2 := RVs.len _ _ hws
     cases ws with
     | nil => rfl
     | cons a r =>
       cases r with
       | nil =>
         exfalso
         cases rs with
         | nil => simp at hl2; rw [<- hl2] at hlen; simp at hlen
         | cons a' r' =>
           cases r' with
           | nil => exact hne a' rfl
           | cons => simp at hl2 hlen; omega
       | cons => rfl
    ·cases hps
  obtain ⟨ws, hw1, hw2⟩ := hws
  obtain ⟨x0, xl, xr⟩ := x
  simp only at x1 x2 hxr
  subst x1
  subst x2
  subst hxr
  obtain ⟨pls, t1, t2⟩ := b2h ht a3H.none_ Rows.none_ hx (fun _ h => h) (fun _ h => by cases h) hw2
  have : pls = [] := t2
  subst this
  exact ⟨ws, hw1, t1⟩
omit [∀ E, Rp (I E)] in
theorem c2u {ks ks' : List Kd} {rs rs' : List V} {g : Fun I ks' (TyT I rs')} {g' : Fun I ks (TyT I rs)} (h : c0j ks rs ks' rs' g = some g') : ∃ (e1 : ks' = ks) (e2 : rs' = rs), g' = e1 ▸ e2 ▸ g := by
 unfold c0j at h
 split at h
 ·rename_i e; cases h; exact ⟨e.1, e.2, rfl⟩
 ·cases h
def a6c : List Pk -> List (TypeId × V)
 | [] => []
 | .var T v true :: r => (T, v) :: a6c r
 | _ :: r => a6c r
theorem a4J : ∀ (pks : List Pk), (a6c pks).map (·.2) = Y0 pks
 | [] => rfl
 | .var T v true :: r => by simp [a6c, Y0, a4J r]
 | .var T v false :: r => a4J r
 | .d _ :: r => a4J r
 | .row _ _ :: r => a4J r
 | .fn _ _ :: r => a4J r
 | .bor _ :: r => a4J r
omit [∀ E, Rp (I E)] in
theorem b2R {O : Obs I} {l : Nat} {E : TypeId} {xs : List (I E)} : ∀ {ls : List Nat} {O1 : Obs I}, (∃ fl, O l = some (some (.row E xs fl))) -> (∃ fl, O1 l = some (some (.row E xs fl))) -> ∃ fl, apU O1 (Q8 O ls) l = some (some (.row E xs fl))
 | [], _, _, h => h
 | a :: r, O1, h0, h => by
   simp only [Q8]
   split
   ·rename_i E' xs' e
    simp only [apU]
    refine b2R h0 ?_
    by_cases el : l = a
    ·subst el
     obtain ⟨fl, h0⟩ := h0
     rw [h0] at e
     cases e
     exact ⟨true, Q4 _ _ _⟩
    ·rw [Q5 el]; exact h
   ·exact b2R h0 h
theorem c3a (h : Rel X c σ s n F) (hRw : ∀ l E (xs : List (I E)) fl, O l = some (some (.row E xs fl)) -> ∃ fl', s.O l = some (some (.row E xs fl'))) (hBo : ∀ l E (xs : List (I E)), O l = some (some (.bo E xs)) -> s.O l = some (some (.bo E xs)))
 {LS : List Nat} (hS : a3H X c σ O LS) {gr : List Nat} {M : Nat -> Prop} (hM : ∀ b, M b -> σ.N <= b \/ ∃ l ∈ gr, Z9 s l /\ ∃ p, c l = some p /\ p.w = some b) {E : TypeId} {p : PV I} {x : List (I E)} {rv : List Nat} (hx : c0C O E p = some (x, rv)) (hrv : ∀ l ∈ rv, l ∉ gr) {v : Value} (hv : RV X c σ p v) :
 ∃ A k, v = .slice A x.length k /\ Bor M σ x A := by
 have hMX : ∀ b, M b -> X.M b := fun b hb => by
  rcases hM b hb with hb | ⟨l, _, hlv, p, hc, hw⟩
  ·exact .inl (Nat.le_trans h.base hb)
  ·exact h.mine l p b hlv hc hw
 unfold c0C at hx
 split at hx
 ·rename_i l
  simp only [RV] at hv
  obtain ⟨p, hp, rfl⟩ := hv
  split at hx
  ·rename_i E' xs fl ho
   obtain ⟨ys, hys, hx⟩ := bind_some hx
   cases hx
   obtain ⟨e, rfl⟩ := a1l hys
   subst e
   obtain ⟨fl', hs⟩ := hRw l _ _ _ ho
   obtain ⟨A, k, ow, k1, k2⟩ := h.objs l _ hs
   rw [k1] at hp
   cases hp
   refine ⟨A, k, rfl, Bor.of_own k2 fun g hg hm => ?_⟩
   have hlt := (h.objs l _ hs).lt k1 (g := g) hg
   rcases hM g hm with hb | ⟨l', hl', hlv, p', hc', hw'⟩
   ·have hb' : σ.w.heap.size <= g := hb
    have : g < σ.w.heap.size := hlt
    omega
   ·have e := h.inj l l' _ p' g ⟨_, hs⟩ hlv k1 hc' hg hw'
    exact hrv l (by simp) (by rw [e]; exact hl')
  ·rename_i E' xs ho
   obtain ⟨ys, hys, hx⟩ := bind_some hx
   cases hx
   obtain ⟨e, rfl⟩ := a1l hys
   subst e
   obtain ⟨A, k, k1, k2⟩ := hS.2 l _ _ ho
   rw [k1] at hp
   cases hp
   exact ⟨A, k, rfl, Bor.of_sl k2⟩
  ·rename_i E' xs ho
   obtain ⟨ys, hys, hx⟩ := bind_some hx
   cases hx
   obtain ⟨e, rfl⟩ := a1l hys
   subst e
   obtain ⟨A, k, k1, k2⟩ := h.objs l _ (hBo l _ _ ho)
   rw [k1] at hp
   cases hp
   exact ⟨A, k, rfl, k2.sub fun b _ => hMX b⟩
  ·cases hx
 ·obtain ⟨ys, hys, hx⟩ := bind_some hx
  cases hx
  obtain ⟨e, rfl⟩ := a1l hys
  subst e
  simp only [RV] at hv
  obtain ⟨A, k, e1, e2, _⟩ := hv
  exact ⟨A, k, e1, Bor.of_sl e2⟩
 ·cases hx
  simp only [RV] at hv
  obtain ⟨A, rfl⟩ := hv
  exact ⟨A, 0, rfl, [], rfl, fun hn => absurd rfl hn⟩
 ·cases hx
def a5S (c : Cx) (O : Obs I) : List (Nat × TypeId × V) -> List Nat -> Prop
 | [], bs => bs = []
 | x :: r, bs => ∃ b bs' ls, bs = b :: bs' /\ O x.1 = some (some (.var x.2.1 ls true)) /\ c x.1 = some ⟨some ⟨b, 0, none⟩, 0, 0, some b⟩ /\ a5S c O r bs'
theorem a54 (ht : TabOk P tb) {disp : a0T I} (hd : DispOk P disp) (hX : X.P = P) (h : Rel X c σ s n F) (hRw : ∀ l E (xs : List (I E)) fl, O l = some (some (.row E xs fl)) -> ∃ fl', s.O l = some (some (.row E xs fl'))) (hBo : ∀ l E (xs : List (I E)), O l = some (some (.bo E xs)) -> s.O l = some (some (.bo E xs))) (hO : ∀ l T ls w, O l = some (some (.var T ls w)) -> s.O l = some (some (.var T ls w))) {LS : List Nat} (hS : a3H X c σ O LS) (hR : Rows X c σ O LS) {gr : List Nat} {Oc : Obs I}
 (hOc : ∀ l o, Oc l = some (some o) -> roO [] (Y7 gr s.O) l = some (some o)) {M : Nat -> Prop} (hM : ∀ b, M b -> σ.N <= b \/ ∃ l ∈ gr, Z9 s l /\ ∃ p, c l = some p /\ p.w = some b) {nb : Nat} :
 ∀ {pks : List Pk} {ps : List (PV I)} {a : a2q I pks} {acc : AccT} {vs : List Value}, a8Q tb disp O Oc nb pks ps = some (a, acc) -> RVs X c σ ps vs -> (∀ l ∈ acc.pub, l ∈ LS) -> (∀ l, some l ∈ acc.all -> l ∉ LS) -> (∀ l ∈ acc.rv, l ∉ gr) ->
  ∃ pls, a7E P M σ pks a vs pls /\ At c acc.all pls /\ a5S c O acc.gv (a1x pks vs) /\ (∀ l, some l ∈ acc.all -> (∃ E, ∃ xs : List (I E), ∃ fl, O l = some (some (.row E xs fl))) \/ ∃ T v, (l, T, v) ∈ acc.gv) /\ (∀ x ∈ acc.gv, some x.1 ∈ acc.all) /\ acc.gv.map (fun x => x.2) = a6c pks
 | [], [], a, acc, vs, e, hv, _, _, _ => by
   cases e
   simp only [RVs] at hv
   subst hv
   exact ⟨[], ⟨rfl, rfl⟩, rfl, rfl, (fun l hl => by cases hl), (fun l hl => by cases hl), rfl⟩
 | .d k :: r, p :: ps, _, _, vs, e, hv, h1, h2, h3 => by
   obtain ⟨x, hx, e⟩ := bind_some e
   obtain ⟨y, hy, e⟩ := bind_some e
   cases e
   simp only [RVs] at hv
   obtain ⟨v, vs', rfl, hv1, hv2⟩ := hv
   obtain ⟨pls, k1, k2, k3, k4, k5, k6⟩ := a54 ht hd hX h hRw hBo hO hS hR hOc hM (a := y.1) (acc := y.2) hy hv2 (fun l hl => h1 l (by simp [hl])) h2 h3
   have hd1 := b6F ht hS (ls := x.2) hx (fun l hl => h1 l (by simp [hl])) hv1
   refine ⟨pls, ⟨v, vs', [], pls, rfl, rfl, ⟨hd1, rfl⟩, k1⟩, k2, ?_, k4, k5, k6⟩
   have : a1x (.d k :: r) (v :: vs') = a1x r vs' := by cases v <;> rfl
   rw [this]; exact k3
 | .row E fl :: r, p :: ps, _, _, vs, e, hv, h1, h2, h3 => by
   obtain ⟨x, hx, e⟩ := bind_some e
   obtain ⟨y, hy, e⟩ := bind_some e
   cases e
   simp only [RVs] at hv
   obtain ⟨v, vs', rfl, hv1, hv2⟩ := hv
   obtain ⟨pls, k1, k2, k3, k4, k5, k6⟩ := a54 ht hd hX h hRw hBo hO hS hR hOc hM (a := y.1) (acc := y.2) hy hv2 (fun l hl => h1 l (by simp [hl])) (fun l hl => h2 l (by simp [hl])) h3
   obtain ⟨p1, t1, t2⟩ := b5s ht hS hR (ls := x.2.1) (rows := x.2.2) hx (fun l hl => h1 l (by simp [hl])) (fun l hl => h2 l (by simp [hl])) hv1
   have hl1 := a8W (ls := x.2.1) (rows := x.2.2) hx
   obtain ⟨A, k, ow, e1, e2, e3⟩ := t1
   refine ⟨p1 ++ pls, ⟨v, vs', p1, pls, rfl, rfl, ⟨A, k, ow, e1, e3, e2⟩, k1⟩, t2.app k2, ?_, fun l hl => ?_, fun z hz => by simp [k5 z hz], k6⟩
   ·have : a1x (.row E fl :: r) (v :: vs') = a1x r vs' := by cases v <;> rfl
    rw [this]; exact k3
   ·rcases List.mem_append.1 hl with hl | hl
    ·exact .inl (hl1 l hl)
    ·exact k4 l hl
 | .bor E :: r, p :: ps, _, _, vs, e, hv, h1, h2, h3 => by
   obtain ⟨x, hx, e⟩ := bind_some e
   obtain ⟨y, hy, e⟩ := bind_some e
   cases e
   simp only [RVs] at hv
   obtain ⟨v, vs', rfl, hv1, hv2⟩ := hv
   obtain ⟨pls, k1, k2, k3, k4, k5, k6⟩ := a54 ht hd hX h hRw hBo hO hS hR hOc hM (a := y.1) (acc := y.2) hy hv2 h1 (fun l hl => h2 l (by simp [hl])) (fun l hl => h3 l (by simp [hl]))
   obtain ⟨A, k, e1, e2⟩ := c3a h hRw hBo hS hM (x := x.1) (rv := x.2) hx (fun l hl => h3 l (by simp [hl])) hv1
   refine ⟨⟨A, k, List.length x.1, none⟩ :: pls, ⟨v, vs', [_], pls, rfl, rfl, ⟨A, k, e1, e2, rfl⟩, k1⟩, ⟨_, _, rfl, rfl, k2⟩, ?_, fun l hl => ?_, fun z hz => by simp [k5 z hz], k6⟩
   ·have : a1x (.bor E :: r) (v :: vs') = a1x r vs' := by cases v <;> rfl
    rw [this]; exact k3
   ·rcases List.mem_cons.1 hl with hl | hl
    ·cases hl
    ·exact k4 l hl
 | .fn ks rs :: r, p :: ps, _, _, vs, e, hv, h1, h2, h3 => by
   obtain ⟨y, hy, e⟩ := bind_some e
   simp only [RVs] at hv
   obtain ⟨v, vs', rfl, hv1, hv2⟩ := hv
   have hb : a1x (.fn ks rs :: r) (v :: vs') = a1x r vs' := by cases v <;> rfl
   split at e
   ·rename_i ks' rs' g
    obtain ⟨g', hg', e⟩ := bind_some e
    cases e
    obtain ⟨e1, e2, e3⟩ := c2u hg'
    subst e1
    subst e2
    subst e3
    obtain ⟨pls, k1, k2, k3, k4, k5, k6⟩ := a54 ht hd hX h hRw hBo hO hS hR hOc hM (a := y.1) (acc := y.2) hy hv2 h1 h2 h3
    simp only [RV] at hv1
    obtain ⟨f, as', cs, e4, hf⟩ := hv1
    refine ⟨pls, ⟨v, vs', [], pls, rfl, rfl, ⟨f, as', cs, e4, ⟨by rw [<- hX]; exact hf.1, hf.2.1, fun τ hτ => ?_⟩, rfl⟩, k1⟩, k2, by rw [hb]; exact k3, k4, k5, k6⟩
    rw [hX] at hf
    exact hf.2.2 τ (hτ.mono fun b _ hb => by
     rcases hM b hb with hb | ⟨l, _, hlv, p, hc, hw⟩
     ·exact .inl (Nat.le_trans h.base hb)
     ·exact h.mine l p b hlv hc hw)
   ·rename_i f0 ls0 hh0
    replace e := k7 e
    obtain ⟨hfb, e⟩ := e
    cases e
    obtain ⟨pls, k1, k2, k3, k4, k5, k6⟩ := a54 ht hd hX h hRw hBo hO hS hR hOc hM (a := y.1) (acc := y.2) hy hv2 h1 h2 h3
    simp only [RV] at hv1
    obtain ⟨cs, e4, hls⟩ := hv1
    exact ⟨pls, ⟨v, vs', [], pls, rfl, rfl, ⟨_, [], cs, e4, c61 ht hd hX h hOc hM hls (ht.fb _ hfb), rfl⟩, k1⟩, k2, by rw [hb]; exact k3, k4, k5, k6⟩
   ·cases e
 | .var T vk w :: r, p :: ps, _, _, vs, e, hv, h1, h2, h3 => by
   obtain ⟨x, hx, e⟩ := bind_some e
   obtain ⟨y, hy, e⟩ := bind_some e
   cases e
   simp only [RVs] at hv
   obtain ⟨v, vs', rfl, hv1, hv2⟩ := hv
   obtain ⟨pls, k1, k2, k3, k4, k5, k6⟩ := a54 ht hd hX h hRw hBo hO hS hR hOc hM (a := y.1) (acc := y.2) hy hv2 (fun l hl => h1 l (by simp [hl])) (fun l hl => h2 l (by simp [hl])) (fun l hl => h3 l (by simp [hl]))
   unfold c3r at hx
   split at hx
   ·rename_i l
    split at hx
    ·rename_i T' ls w' ho
     replace hx := k7 hx
     obtain ⟨hT, hx⟩ := hx
     simp only [Bool.and_eq_true] at hT
     have eT := Nat.eq_of_beq_eq_true hT.1
     subst eT
     have hww := hT.2
     replace hx := bind_some hx
     obtain ⟨q, hq, hx⟩ := hx
     replace hx := bind_some hx
     obtain ⟨z, hz, hx⟩ := hx
     have hs := hO _ _ _ _ ho
     obtain ⟨b, cs, o1, o2, o3, o4, o5⟩ := h.objs l _ hs
     simp only [RV] at hv1
     obtain ⟨b', w2, c1, rfl⟩ := hv1
     rw [o1] at c1
     cases c1
     obtain ⟨u, hu, hcu⟩ := b99 hq o2
     cases w with
     | true =>
       have hw' : w' = true := by cases w' <;> simp at hww ⊢
       subst hw'
       cases hx
       obtain ⟨pr, t1, t2⟩ := b5B ht hS hR (ls := z.2.1) (rows := z.2.2) hz (fun l hl => h1 l (by simp [hl])) (fun l hl => h2 l (by simp [hl])) hu
       have hl1 := b4P (ls := z.2.1) (rows := z.2.2) hz
       refine ⟨(⟨some ⟨b, 0, none⟩, 0, 0, some b⟩ :: pr) ++ pls, ⟨_, vs', _, pls, rfl, rfl, ⟨b, cs, u, pr, rfl, o3, hcu, t1, (fun _ => o4 rfl), (fun e => by cases e), rfl⟩, k1⟩, ?_, ?_, fun l' hl => ?_, fun g hg => ?_, ?_⟩
       ·refine At.app (r1 := some l :: z.2.2) ?_ k2
        exact ⟨_, pr, rfl, o1, t2⟩
       ·exact ⟨b, _, ls, rfl, ho, o1, k3⟩
       ·simp only [List.mem_append, List.mem_cons, Option.some.injEq] at hl
        rcases hl with (hl | hl) | hl
        ·subst hl
         exact .inr ⟨T, vk, by simp⟩
        ·exact .inl (hl1 l' hl)
        ·rcases k4 l' hl with hl | ⟨T2, v2, hl⟩
         ·exact .inl hl
         ·exact .inr ⟨T2, v2, by simp [hl]⟩
       ·simp only [List.cons_append, List.nil_append, List.mem_cons] at hg
        rcases hg with hg | hg
        ·subst hg; simp
        ·simp [k5 g hg]
       ·simp only [List.cons_append, List.nil_append, List.map_cons, a6c, k6]
     | false =>
       simp only [cond_false] at hx
       replace hx := k7 hx
       obtain ⟨hn, hx⟩ := hx
       have hn := a4U hn
       cases hx
       obtain ⟨pr, t1, t2⟩ := b5B ht hS hR (ls := z.2.1) (rows := z.2.2) hz (fun l hl => h1 l (by simp [hl])) (fun l hl => by rw [hn] at hl; cases hl) hu
       rw [hn] at t2
       have : pr = [] := t2
       subst this
       have hlgr : l ∉ gr := h3 l (by simp)
       refine ⟨(⟨some ⟨b, 0, none⟩, 0, 0, none⟩ :: []) ++ pls, ⟨_, vs', _, pls, rfl, rfl, ⟨b, cs, u, [], rfl, o3, hcu, t1, (fun e => by cases e), (fun _ hMb => ?_), rfl⟩, k1⟩, ?_, ?_, fun l' hl => ?_, fun g hg => ?_, ?_⟩
       ·have hlt := a1n o3
        rcases hM b hMb with hb | ⟨l', hl', hlv, p', hc', hw2'⟩
        ·have hb' : σ.w.heap.size <= b := hb
         omega
        ·cases w' with
         | true => exact hlgr (by rw [h.inj l l' _ p' b ⟨_, hs⟩ hlv o1 hc' rfl hw2']; exact hl')
         | false => exact o5 rfl (h.mine l' p' b hlv hc' hw2')
       ·refine At.app (r1 := [none]) ?_ k2
        exact ⟨_, [], rfl, rfl, rfl⟩
       ·exact k3
       ·simp only [List.cons_append, List.nil_append, List.mem_cons] at hl
        rcases hl with hl | hl
        ·cases hl
        ·exact k4 l' hl
       ·simp [k5 g hg]
       ·exact k6
    ·cases hx
   ·cases hx
 | [], _ :: _, _, _, _, e, _, _, _, _ => by simp [a8Q] at e
 | _ :: _, [], _, _, _, e, _, _, _, _ => by simp [a8Q] at e
omit [∀ E, Rp (I E)] in
theorem b3p : ∀ {all : List (Option Nat)} {O : Obs I} {l : Nat}, (∀ l, some l ∈ all -> O l ≠ none) -> apU O (a2x all) l = Y7 (all.filterMap id) O l
 | [], O, l, _ => by simp [a2x, apU, Y7, K9]
 | none :: r, O, l, h => by
   have := b3p (all := r) (O := O) (l := l) (fun l hl => h l (by simp [hl]))
   simpa [a2x] using this
 | some a :: r, O, l, h => by
   simp only [a2x, apU]
   rw [b3p (all := r) (fun l' hl' => by
    by_cases e : l' = a
    ·subst e; rw [Q4]; simp
    ·rw [Q5 e]; exact h l' (by simp [hl']))]
   simp only [Y7, List.filterMap_cons, id, K9]
   by_cases e : l = a
   ·subst e
    rw [Q4]
    have ha := h l (by simp)
    cases ho : O l with
    | none => exact absurd ho ha
    | some o => cases K9 l (List.filterMap id r) <;> simp
   ·rw [Q5 e, Sx.beq_false e]
    rfl
omit [∀ E, Rp (I E)] in
theorem b9k {O : Obs I} {l : Nat} {o : Option (Ob I)} {os : List (Ob I)} {nb : Nat} (h : l ∉ rng nb os.length) : a0L (upF O l o) nb os = upF (a0L O nb os) l o := by
 funext i
 by_cases hi : i ∈ rng nb os.length
 ·rw [(b7Q (O' := O) hi).1, Q5 (fun e => h (by rw [<- e]; exact hi))]
 ·rw [a0P hi]
  by_cases e : i = l
  ·subst e; rw [Q4, Q4]
  ·rw [Q5 e, Q5 e, a0P hi]
omit [∀ E, Rp (I E)] in
theorem b6x {O0 : Obs I} {os : List (Ob I)} {nb : Nat} : ∀ {gv : List (Nat × TypeId × V)} {ps : List (PV I)} {O : Obs I}, (∀ x ∈ gv, (∃ ls, O0 x.1 = some (some (.var x.2.1 ls true))) /\ x.1 ∉ rng nb os.length) ->
 a0L (apU O (a5F gv ps)) nb os = asgW O0 (gv.map fun x => (x.1, x.2.2)) (gv.map (·.1)) ps (a0L O nb os)
 | [], ps, O, _ => by cases ps <;> rfl
 | x :: r, [], O, _ => rfl
 | x :: r, p :: ps, O, h => by
   obtain ⟨⟨ls, h1⟩, h2⟩ := h x (by simp)
   simp only [a5F, apU, List.map_cons, asgW, h1]
   rw [b6x (gv := r) (fun y hy => h y (by simp [hy])), b9k h2]
omit [∀ E, Rp (I E)] in
theorem a69 {O0 O : Obs I} : ∀ {pks : List Pk} {vs us : List Value} {gv : List (Nat × TypeId × V)}, c0w τ pks vs us -> a5S c O gv (a1x pks vs) -> gv.map (fun x => x.2) = a6c pks -> (∀ x ∈ gv, ∃ ls, O0 x.1 = some (some (.var x.2.1 ls true))) ->
 a6w τ c O0 (gv.map fun x => (x.1, x.2.2)) (gv.map (·.1)) us
 | [], vs, us, gv, h, _, h3, _ => by
   have hg : gv = [] := by simpa [a6c] using h3
   subst hg
   cases vs with
   | nil => exact h
   | cons => exact h.elim
 | .d k :: r, [], us, gv, h, _, _, _ => h.elim
 | .row _ _ :: r, [], us, gv, h, _, _, _ => h.elim
 | .fn _ _ :: r, [], us, gv, h, _, _, _ => h.elim
 | .bor _ :: r, [], us, gv, h, _, _, _ => h.elim
 | .var _ _ false :: r, [], us, gv, h, _, _, _ => h.elim
 | .var _ _ true :: r, [], us, gv, h, _, _, _ => h.elim
 | .d k :: r, v :: vs, us, gv, h, h2, h3, h4 => a69 (pks := r) (vs := vs) h (by have e : a1x (.d k :: r) (v :: vs) = a1x r vs := by cases v <;> rfl
                                                                                rw [e] at h2; exact h2) h3 h4
 | .row E f :: r, v :: vs, us, gv, h, h2, h3, h4 => a69 (pks := r) (vs := vs) h (by have e : a1x (.row E f :: r) (v :: vs) = a1x r vs := by cases v <;> rfl
                                                                                    rw [e] at h2; exact h2) h3 h4
 | .bor E :: r, v :: vs, us, gv, h, h2, h3, h4 => a69 (pks := r) (vs := vs) h (by have e : a1x (.bor E :: r) (v :: vs) = a1x r vs := by cases v <;> rfl
                                                                                  rw [e] at h2; exact h2) h3 h4
 | .fn ks rs :: r, v :: vs, us, gv, h, h2, h3, h4 => a69 (pks := r) (vs := vs) h (by have e : a1x (.fn ks rs :: r) (v :: vs) = a1x r vs := by cases v <;> rfl
                                                                                     rw [e] at h2; exact h2) h3 h4
 | .var T w false :: r, v :: vs, us, gv, h, h2, h3, h4 => a69 (pks := r) (vs := vs) h (by have e : a1x (.var T w false :: r) (v :: vs) = a1x r vs := by cases v <;> rfl
                                                                                          rw [e] at h2; exact h2) h3 h4
 | .var T w true :: r, v :: vs, us, gv, h, h2, h3, h4 => by
   obtain ⟨b, cs, u, us', e1, e2, e3, e4, e5, e6⟩ := h
   subst e1
   subst e2
   cases gv with
   | nil => simp [a6c] at h3
   | cons x gv =>
     simp only [List.map_cons, a6c, List.cons.injEq] at h3
     obtain ⟨b', bs', ls, q1, q2, q3, q4⟩ := h2
     have hb : a1x (.var T w true :: r) (Value.pointer (some ⟨b, 0, none⟩) :: vs) = b :: a1x r vs := rfl
     rw [hb] at q1
     cases q1
     obtain ⟨ls0, o1⟩ := h4 x (by simp)
     have ih := a69 (pks := r) (vs := vs) (us := us') (gv := gv) (O0 := O0) e6 q4 h3.2 (fun y hy => h4 y (by simp [hy]))
     have hT : x.2.1 = T := by rw [h3.1]
     have hV : x.2.2 = w := by rw [h3.1]
     refine ⟨u, us', b, x.2.1, ls0, true, cs, rfl, o1, q3, by rw [hT]; exact e3, e4, ?_, ih⟩
     show bif a6Z x.2.2 then _ else _
     rw [hV]; exact e5
theorem b6K (ht : TabOk P tb) {r : Row I} {C : World -> List Value -> Prop} {chk : Obs I -> List (PV I) -> Bool} (hr : b0W P r C)
 (hC : ∀ (X : Cxt) (c : Cx) (σ : S) (s : St I) (n : Nat) (F : Fr) (O : Obs I) (ps : List (PV I)) (vs : List Value), (∀ l o, O l = some (some o) -> s.O l = some (some o)) -> Rel X c σ s n F -> chk O ps = true -> RVs X c σ ps vs -> C σ.w vs) : EntOk P (c2g tb r chk) := by
 refine ⟨fun disp ρ O nb ps k => ?_, fun disp hd O nb ps ef he => ?_⟩
 ·show b2f tb r chk disp ρ O nb ps k = (b2f tb r chk disp (Ef I) O nb ps some).bind k
  unfold b2f
  cases chk O ps
  ·rfl
  simp only [cond_true]
  unfold b89
  simp only [Option.bind_assoc]
  refine c2e fun a => ?_
  cases b7S (grN O r.ps ps) a.2
  ·rfl
  ·simp only [cond_true, Option.bind_assoc]
   rfl
 ·intro X c σ s n F vs hX hO h hvs hfree
  have he' : b2f tb r chk disp (Ef I) O nb ps some = some ef := he
  unfold b2f at he'
  obtain ⟨hck, he'⟩ := k7 he'
  have hCw := hC X c σ s n F O ps vs hO h hck hvs
  unfold b89 at he'
  obtain ⟨a, ha, he'⟩ := bind_some he'
  obtain ⟨hchk, he'⟩ := k7 he'
  obtain ⟨res, hres, he'⟩ := bind_some he'
  cases he'
  obtain ⟨a, acc⟩ := a
  simp only [b7S, Bool.and_eq_true] at hchk
  obtain ⟨⟨q1, q2⟩, q3⟩ := hchk
  obtain ⟨r1, r2⟩ := a7a q1
  have hgr : ∀ l, some l ∈ acc.all -> l ∈ grN O r.ps ps := fun l hl => by
   have := (List.all_eq_true.1 q2) _ hl
   exact a0i.1 this
  have hrv : ∀ l ∈ acc.rv, l ∉ grN O r.ps ps := fun l hl => by
   have := (List.all_eq_true.1 q3) _ hl
   exact a0W.1 (by simpa using this)
  obtain ⟨τ1, p1, p2, p3, p4, p5, p6⟩ := h.pubs hO acc.pub
  have hvs1 := RVs.step p2 _ _ hvs
  have hpubO : ∀ {l : Nat}, (∀ E (xs : List (I E)), O l ≠ some (some (.row E xs false))) -> (Z2 s O acc.pub).O l = s.O l := fun {l} hn => by
   show apU s.O (Q8 O acc.pub) l = s.O l
   apply a26
   intro hm
   have hp : ∀ {ls : List Nat}, l ∈ a0X (Q8 O ls) -> ∃ E, ∃ xs : List (I E), O l = some (some (.row E xs false)) := by
    intro ls
    induction ls with
    | nil => intro h; simp [Q8, a0X] at h
    | cons a r ih =>
      intro h
      simp only [Q8] at h
      split at h
      ·rename_i E xs e
       simp only [a0X, List.map_cons, List.mem_cons] at h
       rcases h with rfl | h
       ·exact ⟨E, xs, e⟩
       ·exact ih h
      ·exact ih h
   obtain ⟨E, xs, e⟩ := hp hm
   exact hn E xs e
  have hOv : ∀ l T ls w, O l = some (some (.var T ls w)) -> (Z2 s O acc.pub).O l = some (some (.var T ls w)) := fun l T ls w ho => by
   rw [hpubO (fun E xs e => by rw [ho] at e; cases e)]; exact hO l _ ho
  have hOc : ∀ l o, roO [] (Y7 (grN O r.ps ps) O) l = some (some o) -> roO [] (Y7 (grN O r.ps ps) (Z2 s O acc.pub).O) l = some (some o) := by
   intro l o hl
   unfold roO Y7 at hl ⊢
   cases hm : K9 l (grN O r.ps ps) with
   | true =>
     rw [hm] at hl
     cases hol : O l with
     | none => rw [hol] at hl; simp [K9] at hl
     | some x => rw [hol] at hl; simp [K9] at hl
   | false =>
     rw [hm] at hl
     simp only [cond_false, K9] at hl ⊢
     have hne : ∀ E (xs : List (I E)), O l ≠ some (some (.row E xs false)) := fun E xs e => by rw [e] at hl; simp at hl
     rw [hpubO hne]
     cases hol : O l with
     | none => rw [hol] at hl; simp at hl
     | some x =>
       cases x with
       | none => rw [hol] at hl; simp at hl
       | some o' => rw [hO l o' hol]; rw [hol] at hl; exact hl
  have hlv : ∀ l, some l ∈ acc.all -> (∃ E, ∃ xs : List (I E), ∃ fl, O l = some (some (.row E xs fl))) \/ (∃ T ls, O l = some (some (.var T ls true))) -> Z9 (Z2 s O acc.pub) l := fun l hl hx => by
   rcases hx with ⟨E, xs, fl, ho⟩ | ⟨T, ls, ho⟩
   ·exact ⟨_, (p6 l (r2 l hl)).trans (hO l _ ho)⟩
   ·exact ⟨_, hOv l _ _ _ ho⟩
  have core : ∀ M : Nat -> Prop, (∀ b, M b -> τ1.N <= b \/ ∃ l ∈ grN O r.ps ps, Z9 (Z2 s O acc.pub) l /\ ∃ p, c l = some p /\ p.w = some b) -> _ := fun M hM =>
   a54 ht hd hX p3 (fun l E xs fl e => b2R ⟨fl, e⟩ ⟨fl, hO l _ e⟩) (fun l E xs e => (hpubO (fun E' xs' e' => by rw [e] at e'; cases e')).trans (hO l _ e)) hOv p4 p5 hOc hM (nb := nb) ha hvs1 (fun _ h => h) r2 hrv
  have fin : ∀ (pls : List Pl), a7E P (fun b => τ1.N <= b \/ b ∈ ows pls) τ1 r.ps a vs pls -> At c acc.all pls -> a5S c O acc.gv (a1x r.ps vs) -> (∀ l, some l ∈ acc.all -> (∃ E, ∃ xs : List (I E), ∃ fl, O l = some (some (.row E xs fl))) \/ ∃ T v, (l, T, v) ∈ acc.gv) ->
   (∀ x ∈ acc.gv, some x.1 ∈ acc.all) -> acc.gv.map (fun x => x.2) = a6c r.ps -> a5B P r.f vs σ (Stp X.M σ) fun v τ => ∃ c', Cx.le c c' /\ Rel X c' τ (apE s nb ⟨a9w ((pvT tb nb (r.rs ++ Y0 r.ps) res).take r.rs.length), Q8 O acc.pub ++ a2x acc.all ++ a5F acc.gv ((pvT tb nb (r.rs ++ Y0 r.ps) res).drop r.rs.length), obT (r.rs ++ Y0 r.ps) res⟩) n F /\
     RV X c' τ (a9w ((pvT tb nb (r.rs ++ Y0 r.ps) res).take r.rs.length)) v := by
   intro pls k1 k2 k3 k4 k5 k6
   have hgv : ∀ x ∈ acc.gv, ∃ ls, O x.1 = some (some (.var x.2.1 ls true)) := by
    have : ∀ {gv : List (Nat × TypeId × V)} {bs : List Nat}, a5S c O gv bs -> ∀ x ∈ gv, ∃ ls, O x.1 = some (some (.var x.2.1 ls true)) := by
     intro gv
     induction gv with
     | nil => intro bs _ x hx; cases hx
     | cons y r ih =>
       intro bs ⟨b, bs', ls, _, e2, _, e4⟩ x hx
       rcases List.mem_cons.1 hx with rfl | hx
       ·exact ⟨ls, e2⟩
       ·exact ih e4 x hx
    exact this k3
   have hlive : ∀ l, some l ∈ acc.all -> Z9 (Z2 s O acc.pub) l := fun l hl => hlv l hl ((k4 l hl).imp id fun ⟨T, v, hm⟩ => by
    obtain ⟨ls, e⟩ := hgv _ hm
    exact ⟨T, ls, e⟩)
   have hnd : (ows pls).Nodup := At.nodup p3 k2 r1 hlive
   have hown : ∀ g ∈ ows pls, ∃ l p, some l ∈ acc.all /\ c l = some p /\ p.w = some g := k2.mem
   have hownM : ∀ g ∈ ows pls, X.M g := fun g hg => by
    obtain ⟨l, p, a1, a2, a3⟩ := hown g hg
    exact p3.mine l p g (hlive l a1) a2 a3
   refine a5B.mono (hr τ1 a vs pls res k1 (by rw [p1]; exact hCw) hnd hres) p1.symm fun v τ hst ⟨ws, us, pls', hpost⟩ => ⟨τ, rfl, p2.trans (hst.mono fun b _ hb => hownM b hb), ?_⟩
   let kl := acc.all.filterMap id
   have hkl : ∀ l, l ∈ kl ↔ some l ∈ acc.all := fun l => by simp [kl, List.mem_filterMap]
   let s2 : St I := ⟨s.n, s.F, Y7 kl (Z2 s O acc.pub).O, s.nx⟩
   have h2 : Rel X c τ1 s2 n F := p3.less (fun l o ho => (Y4 ho).2) (fun l ho => a2j.1 ho)
   have hn2 : ∀ l p g, Z9 s2 l -> c l = some p -> p.w = some g -> ¬ g ∈ ows pls := fun l p g ⟨o, ho⟩ hc hw hg => by
    obtain ⟨m1, m2⟩ := Y4 ho
    obtain ⟨l', p', a1, a2, a3⟩ := hown g hg
    exact m1 ((hkl l).2 (by rw [p3.inj l l' p p' g ⟨o, m2⟩ (hlive l' a1) hc a2 hw a3]; exact a1))
   have hi2 : ∀ g, g ∈ ows pls -> notIn c τ1 s2 g := fun g hg => by
    obtain ⟨l', p', a1, a2, a3⟩ := hown g hg
    exact (p3.owned (hlive l' a1) a2 a3).sub fun l E E' u xs q e => (Y4 e).2
   have h3 : Rel X c τ s2 n F := h2.stepG hst hownM hn2 hi2
   have hOpub : apU s.O (Q8 O acc.pub ++ a2x acc.all) = Y7 kl (Z2 s O acc.pub).O := by
    rw [a3I]
    funext l
    exact b3p fun l hl => by obtain ⟨o, ho⟩ := hlive l hl; intro e; have := ho; rw [show (Z2 s O acc.pub).O l = apU s.O (Q8 O acc.pub) l from rfl, e] at this; cases this
   have hgvO : ∀ x ∈ acc.gv, ∃ ls, (Z2 s O acc.pub).O x.1 = some (some (.var x.2.1 ls true)) := fun x hx => by
    obtain ⟨ls, e⟩ := hgv x hx
    exact ⟨ls, hOv _ _ _ _ e⟩
   have hfree2 : ∀ l ∈ rng nb (obT (r.rs ++ Y0 r.ps) res).length, Y7 kl (Z2 s O acc.pub).O l = none /\ l ∉ acc.gv.map (·.1) := by
    rw [a1R] at hfree
    intro l hl
    have h0 := hfree l hl
    rw [a3I, hOpub] at h0
    by_cases hk : l ∈ a0X (a5F acc.gv ((pvT tb nb (r.rs ++ Y0 r.ps) res).drop r.rs.length))
    ·exact absurd h0 (b2o (O' := s.O) hk).2
    ·rw [a26 hk] at h0
     refine ⟨h0, fun hm => ?_⟩
     simp only [List.mem_map] at hm
     obtain ⟨x, hx, e⟩ := hm
     have := (hkl x.1).2 (k5 x hx)
     rw [e] at this
     have hl2 := hlive l ((hkl l).1 this)
     obtain ⟨o, ho⟩ := hl2
     have := a2j.1 h0
     rw [ho] at this; cases this
   have hob := a72 hpost.tt
   obtain ⟨h4, h5⟩ := Rel.addN (nb := nb) h3 (a1R.2 fun l hl => (hfree2 l hl).1) hob hpost.nodup fun g hg => by
    have ho := hpost.own g hg
    refine ⟨ho.1.elim (fun h => .inl (Nat.le_trans p3.base h)) (hownM g), (ho.1.elim (fun h => h2.fresh h) (hi2 g)).step h2 hst hn2 hi2, fun l p ⟨o, ho'⟩ hc hw => ?_⟩
    obtain ⟨m1, m2⟩ := Y4 ho'
    rcases ho.1 with hge | hin
    ·have := (p3.objs l o m2).lt hc hw
     have : τ1.w.heap.size <= g := hge
     omega
    ·obtain ⟨l', p', a1, a2, a3⟩ := hown g hin
     exact m1 ((hkl l).2 (by rw [p3.inj l l' p p' g ⟨o, m2⟩ (hlive l' a1) hc a2 hw a3]; exact a1))
   obtain ⟨hps, hlen⟩ := b2G (X := X) (c := W9 c nb pls') (nb := nb) ht hpost.tt a2u
   have htk := RVs.take r.rs.length _ _ hps
   have hdr := RVs.drop r.rs.length _ _ hps
   rw [List.take_left' hpost.len] at htk
   rw [List.drop_left' hpost.len] at hdr
   have hold : ∀ l, (Z2 s O acc.pub).O l ≠ none -> W9 c nb pls' l = c l := fun l hl => by
    have key : ∀ {ps : List Pl} {c : Cx} {nb : Nat}, (l < nb \/ nb + ps.length <= l) -> W9 c nb ps l = c l := by
     intro ps
     induction ps with
     | nil => intro c nb _; rfl
     | cons p ps ih =>
       intro c nb h
       simp only [W9]
       rw [ih (by simp only [List.length_cons] at h; omega)]
       have : l ≠ nb := by simp only [List.length_cons] at h; omega
       simp [a0t, this]
    apply key
    apply Classical.byContradiction
    intro hn
    rw [not_or] at hn
    exact hl (a2j.1 (hfree2 l (a27.2 ⟨by omega, by rw [hob.1]; omega⟩)).1)
   have hvarb : ∀ {gv : List (Nat × TypeId × V)} {bs : List Nat}, a5S c O gv bs -> ∀ x ∈ gv, ∀ p g, c x.1 = some p -> p.w = some g -> g ∈ bs := by
    intro gv
    induction gv with
    | nil => intro bs _ x hx; cases hx
    | cons y r ih =>
      intro bs ⟨b, bs', ls, e1, e2, e3, e4⟩ x hx p g hc hw
      subst e1
      rcases List.mem_cons.1 hx with rfl | hx
      ·rw [e3] at hc; cases hc; cases hw; simp
      ·simp [ih e4 x hx p g hc hw]
   have hat : ∀ (i : Nat) (y : Nat × V) (p : PV I), (acc.gv.map fun x => (x.1, x.2.2))[i]? = some y -> ((pvT tb nb (r.rs ++ Y0 r.ps) res).drop r.rs.length)[i]? = some p -> ∃ nb' z, p = pvV tb nb' y.2 z := fun i y p hi hp => by
    refine b7c (tb := tb) (vs := r.rs ++ Y0 r.ps) (nb := nb) (x := res) (i := r.rs.length + i) (v := y.2) ?_ (by rw [List.getElem?_drop] at hp; exact hp)
    rw [List.getElem?_append_right (by simp), Nat.add_sub_cancel_left, <- a4J, <- k6]
    rw [List.getElem?_map] at hi
    simp only [List.map_map, List.getElem?_map]
    cases hgi : acc.gv[i]? with
    | none => rw [hgi] at hi; cases hi
    | some z => rw [hgi] at hi; cases hi; rfl
   have h6 := Rel.asgW (pls := pls') ht p3 h5 (a69 hpost.out k3 k6 hgvO) hdr (fun i y p hi hp hag => by
    obtain ⟨nb', z, e⟩ := hat i y p hi hp
    rw [e]; exact b5q hag)
    (fun i y p hi hp hag => by
      obtain ⟨nb', z, e⟩ := hat i y p hi hp
      rw [e]; exact b5i hag)
    (fun l hl => hold l (by
      simp only [List.mem_map] at hl
      obtain ⟨x, hx, rfl⟩ := hl
      obtain ⟨ls, e⟩ := hgvO x hx
      rw [e]; simp))
    (fun l hl p g hc hw => by
      simp only [List.mem_map] at hl
      obtain ⟨x, hx, rfl⟩ := hl
      exact p3.mine x.1 p g (hlive _ (k5 x hx)) hc hw)
    (fun l ⟨o, ho⟩ => by
      by_cases hm : l ∈ rng nb (obT (r.rs ++ Y0 r.ps) res).length
      ·right
       obtain ⟨a1, a2⟩ := a27.1 hm
       have hlt : l - nb < pls'.length := by rw [<- hob.1]; omega
       refine ⟨pls'[l - nb], List.getElem_mem _, ?_⟩
       have := a2u (c := c) (nb := nb) (l - nb) pls'[l - nb] (List.getElem?_eq_getElem hlt)
       rw [show nb + (l - nb) = l from by omega] at this
       exact this
      ·left
       have ho' : a0L (Y7 kl (Z2 s O acc.pub).O) nb (obT (r.rs ++ Y0 r.ps) res) l = some (some o) := ho
       rw [a0P hm] at ho'
       obtain ⟨_, m2⟩ := Y4 ho'
       exact ⟨⟨o, m2⟩, hold l (by rw [m2]; simp)⟩)
    (fun l hl p hc g hw hm => by
      simp only [List.mem_map] at hl
      obtain ⟨x, hx, rfl⟩ := hl
      exact (hpost.own g hm).2 (hvarb k3 x hx p g hc hw))
    (fun l hl p hc g hw => by
      simp only [List.mem_map] at hl
      obtain ⟨x, hx, rfl⟩ := hl
      obtain ⟨ls, e⟩ := hgvO x hx
      exact (((p3.owned ⟨_, e⟩ hc hw).sub (s' := s2) fun l E E' u xs q e => (Y4 e).2).step h2 hst hn2 hi2).grow h3 h4 (a55 hob.not))
   refine ⟨_, h4, ?_, by rw [hpost.ret]; exact b79 htk⟩
   have hO2 : a0L (apU s.O (Q8 O acc.pub ++ a2x acc.all ++ a5F acc.gv ((pvT tb nb (r.rs ++ Y0 r.ps) res).drop r.rs.length))) nb (obT (r.rs ++ Y0 r.ps) res) =
    asgW (Z2 s O acc.pub).O (acc.gv.map fun x => (x.1, x.2.2)) (acc.gv.map (·.1)) ((pvT tb nb (r.rs ++ Y0 r.ps) res).drop r.rs.length) (a0L (Y7 kl (Z2 s O acc.pub).O) nb (obT (r.rs ++ Y0 r.ps) res)) := by
    rw [a3I, hOpub]
    exact b6x fun x hx => ⟨hgvO x hx, fun hm => (hfree2 x.1 hm).2 (List.mem_map.2 ⟨x, hx, rfl⟩)⟩
   have e : apE s nb ⟨a9w ((pvT tb nb (r.rs ++ Y0 r.ps) res).take r.rs.length), Q8 O acc.pub ++ a2x acc.all ++ a5F acc.gv ((pvT tb nb (r.rs ++ Y0 r.ps) res).drop r.rs.length), obT (r.rs ++ Y0 r.ps) res⟩ =
    ⟨s.n, s.F, asgW (Z2 s O acc.pub).O (acc.gv.map fun x => (x.1, x.2.2)) (acc.gv.map (·.1)) ((pvT tb nb (r.rs ++ Y0 r.ps) res).drop r.rs.length) (a0L (Y7 kl (Z2 s O acc.pub).O) nb (obT (r.rs ++ Y0 r.ps) res)), s.nx⟩ := by
    simp only [apE, hO2]
   rw [e]
   exact h6
  obtain ⟨pls0, k1, k2, k3, k4, k5, k6⟩ := core (fun _ => False) (fun _ h => h.elim)
  obtain ⟨pls, k1', k2', _⟩ := core (fun b => τ1.N <= b \/ b ∈ ows pls0) (fun b hb => hb.imp id fun hb => by
   obtain ⟨l, p, a1, a2, a3⟩ := k2.mem b hb
   refine ⟨l, hgr l a1, hlv l a1 ((k4 l a1).imp id fun ⟨T, v, hm⟩ => ?_), p, a2, a3⟩
   have : ∀ {gv : List (Nat × TypeId × V)} {bs : List Nat}, a5S c O gv bs -> ∀ x ∈ gv, ∃ ls, O x.1 = some (some (.var x.2.1 ls true)) := by
    intro gv
    induction gv with
    | nil => intro bs _ x hx; cases hx
    | cons y r ih =>
      intro bs ⟨b, bs', ls, _, e2, _, e4⟩ x hx
      rcases List.mem_cons.1 hx with rfl | hx
      ·exact ⟨ls, e2⟩
      ·exact ih e4 x hx
   obtain ⟨ls, e⟩ := this k3 _ hm
   exact ⟨T, ls, e⟩)
  have hsame : ows pls = ows pls0 := by
   have : ∀ {rows : List (Option Nat)} {p q : List Pl}, At c rows p -> At c rows q -> ows p = ows q := by
    intro rows
    induction rows with
    | nil => intro p q h1 h2; cases h1; cases h2; rfl
    | cons x r ih =>
      intro p q ⟨a, c8i, e1, g1, h1⟩ ⟨b, bs, e2, g2, h2⟩
      subst e1
      subst e2
      have hr := ih h1 h2
      simp only [ows, List.filterMap_cons] at hr ⊢
      have : a.w = b.w := by
       cases x with
       | none => simp only at g1 g2; rw [g1, g2]
       | some l => simp only at g1 g2; rw [g1] at g2; cases g2; rfl
      rw [this, hr]
   exact this k2' k2
  rw [<- hsame] at k1'
  exact fin pls k1' k2' k3 k4 k5 k6
theorem z8 (ht : TabOk P tb) {r : Row I} (hr : y3 P r) : EntOk P (j6 tb r) :=
 b6K (C := fun _ _ => True) (chk := fun _ _ => true) ht (fun σ a vs pls res h _ => hr σ a vs pls res h) (fun _ _ _ _ _ _ _ _ _ _ _ _ _ => trivial)
def b5o : List (PV I) -> List (Option (PV I)) -> Bool
 | [], [] => true
 | .ptr a 0 :: r, some (.ptr b 0) :: r' => Nat.beq a b && b5o r r'
 | _, _ => false
def b5j (T : TypeId) (f : FuncId) (j : Nat) (is : List Nat) (O : Obs I) (ps : List (PV I)) : Bool := match ps[j]? with
 | some (.ptr l 0) => match O l with
   | some (some (.var T' [.clo f' ls] _)) => Nat.beq T T' && (Nat.beq f f' && b5o ls (is.map (ps[·]?)))
   | _ => false
 | _ => false
def b6Y (T : TypeId) (f : FuncId) (j : Nat) (is : List Nat) (w : World) (vs : List Value) : Prop :=
 ∃ b c8i, vs[j]? = some (.pointer (some ⟨b, 0, none⟩)) /\ w.heap[b]? = some (.cells #[.func (.func f) #[] (List.toArray c8i)] T (0, 0)) /\ is.map (vs[·]?) = c8i.map some
theorem c0f : ∀ {ls : List (PV I)} {is : List Nat} {ps : List (PV I)} {vs c8i : List Value}, b5o ls (is.map (ps[·]?)) = true -> RVs X c σ ps vs -> RVs X c σ ls c8i -> is.map (vs[·]?) = c8i.map some
 | [], [], _, _, c8i, _, _, ha => by
   simp only [RVs] at ha
   subst ha; rfl
 | [], _ :: _, _, _, _, h, _, _ => by simp [b5o] at h
 | p :: r, [], _, _, _, h, _, _ => by cases p <;> simp [b5o] at h
 | p :: r, i :: is, ps, vs, c8i, h, hv, ha => by
   simp only [RVs] at ha
   obtain ⟨a, as', rfl, h1, h2⟩ := ha
   simp only [List.map_cons] at h ⊢
   unfold b5o at h
   split at h
   ·rename_i e1 _
    cases e1
   ·rename_i l0 r0 l1 r1 e1 e2
    obtain ⟨e3, e4⟩ := List.cons.inj e1
    obtain ⟨hps, hr1⟩ := List.cons.inj e2
    subst e3
    subst e4
    subst hr1
    simp only [Bool.and_eq_true] at h
    have e := Nat.eq_of_beq_eq_true h.1
    subst e
    obtain ⟨v, hvi, hrv⟩ := RVs.at_ _ _ hv i _ hps
    rw [hvi, c0f h.2 hv h2]
    simp only [RV] at hrv h1
    obtain ⟨b, w, k1, rfl⟩ := hrv
    obtain ⟨b', w', k2, rfl⟩ := h1
    rw [k1] at k2
    cases k2
    rfl
   ·cases h
theorem b7e {T : TypeId} {f : FuncId} {j : Nat} {is : List Nat} {ps : List (PV I)} {vs : List Value} (hO : ∀ l o, O l = some (some o) -> s.O l = some (some o)) (h : Rel X c σ s n F) (hc : b5j T f j is O ps = true) (hv : RVs X c σ ps vs) : b6Y T f j is σ.w vs := by
 unfold b5j at hc
 split at hc
 ·rename_i l hj
  split at hc
  ·rename_i T' f' ls w' ho
   simp only [Bool.and_eq_true] at hc
   have eT := Nat.eq_of_beq_eq_true hc.1
   have ef := Nat.eq_of_beq_eq_true hc.2.1
   subst eT
   subst ef
   obtain ⟨v, hvj, hrv⟩ := RVs.at_ _ _ hv j _ hj
   simp only [RV] at hrv
   obtain ⟨b, w, k1, rfl⟩ := hrv
   obtain ⟨b', cs, k2, k3, k4, _⟩ := h.objs l _ (hO _ _ ho)
   rw [k1] at k2
   cases k2
   simp only [RG] at k3
   obtain ⟨a, r, rfl, hcl, rfl⟩ := k3
   rcases hcl with hcl | ⟨_, u, rfl, hu⟩
   ·exact hcl.elim
   simp only [RV] at hu
   obtain ⟨c8i, rfl, has⟩ := hu
   exact ⟨b, c8i, hvj, by simpa using k4, c0f hc.2.2 hv has⟩
  ·cases hc
 ·cases hc
def c41 (T : TypeId) (f : FuncId) (l : Nat) (j : Nat) (is : List Nat) (s : St I) : St I := Q0 s l (some (.var T [.clo f (is.filterMap s.F)] false))
theorem c1h : ∀ {is : List Nat} {ps : List (PV I)} {vs c8i : List Value}, is.all (fun i => Nat.blt i ps.length) = true -> RVs X c σ ps vs -> is.map (vs[·]?) = c8i.map some -> RVs X c σ (is.filterMap (ps[·]?)) c8i
 | [], _, _, c8i, _, _, e => by
   cases c8i with
   | nil => simp only [List.filterMap_nil, RVs]
   | cons => cases e
 | i :: is, ps, vs, c8i, hl, hv, e => by
   cases c8i with
   | nil => cases e
   | cons a c8i =>
     simp only [List.map_cons, List.cons.injEq] at e
     simp only [List.all_cons, Bool.and_eq_true] at hl
     have hi : i < ps.length := by
      have := hl.1
      rw [Nat.blt_eq] at this
      exact this
     have hp := List.getElem?_eq_getElem hi
     obtain ⟨v, hvi, hrv⟩ := RVs.at_ _ _ hv i _ hp
     rw [e.1] at hvi
     cases hvi
     rw [List.filterMap_cons, hp]
     simp only [RVs]
     exact ⟨a, c8i, rfl, hrv, c1h hl.2 hv e.2⟩
theorem c4M {T : TypeId} {f : FuncId} {l j : Nat} {is : List Nat} {nt : Nat} {ps : List Pk} {a : a2q I ps} {vs : List Value} (hl : (b1H tb nt ps a).O l = some (some (.var T [.any] false))) (hj : (a17 tb 0 ps a)[j]? = some (.ptr l 0)) (his : is.all (fun i => Nat.blt i (a17 tb 0 ps a).length) = true)
 (h : Rel X c σ (b1H tb nt ps a) nt F) (hv : RVs X c σ (a17 tb 0 ps a) vs) (hC : b6Y T f j is σ.w vs) : Rel X c σ (c41 T f l j is (b1H tb nt ps a)) nt F := by
 obtain ⟨b, c8i, h1, h2, h3⟩ := hC
 obtain ⟨v, hvj, hrv⟩ := RVs.at_ _ _ hv j _ hj
 rw [h1] at hvj
 cases hvj
 simp only [RV] at hrv
 obtain ⟨b', w, k1, e⟩ := hrv
 cases e
 obtain ⟨b', cs, k2, k3, k4, k5, k6⟩ := h.objs l _ hl
 rw [k1] at k2
 cases k2
 refine h.revive ⟨b, [.func (.func f) #[] (List.toArray c8i)], k1, ?_, by simpa using h2, k5, k6⟩ fun p g hp hg => ?_
 ·simp only [RG]
  refine ⟨_, [], rfl, .inr ⟨rfl, _, rfl, ?_⟩, rfl⟩
  simp only [RV]
  exact ⟨c8i, rfl, c1h his hv h3⟩
 ·exact ⟨h.mine l p g ⟨_, hl⟩ hp hg, h.owned ⟨_, hl⟩ hp hg, fun l' p' hne hlv hp' hg' => hne (h.inj l' l p' p g hlv ⟨_, hl⟩ hp' hp hg' hg)⟩
end
end Go.Qx
end
section
namespace Go.Qx
open Go Go.RowKit Go.Sx
section
variable {I : TypeId -> Type} [∀ E, Rp (I E)] {P : Program} {tb : Tab I} {X : Cxt} {c c' : Cx} {σ τ : S} {s : St I} {n : Nat} {F : Fr} {O : Obs I}
structure Rio (I : TypeId -> Type) where
 f : FuncId
 E : TypeId
 ps : List Pk
 rs : List V
 run : List (I E) -> b9n I ps (TyT I (rs ++ Y0 ps) × List (I E))
def c1B (P : Program) (r : Rio I) : Prop := ∀ (σ : S) (xs : List (I r.E)) (a : a2q I r.ps) (vs : List Value) (pls : List Pl) (res : TyT I (r.rs ++ Y0 r.ps)) (ys : List (I r.E)),
 a7E P (fun b => σ.N <= b \/ b ∈ ows pls) σ (.row r.E false :: r.ps) (xs, a) vs pls -> (ows pls).Nodup -> b1P r.ps (r.run xs) a = some (res, ys) ->
  a5B P r.f vs σ (Stp (fun b => b ∈ ows pls) σ) fun v τ => ∃ ws us pls', Post σ τ (.row r.E false :: r.ps) r.rs vs res (ows pls) v ws us pls' /\
   ∃ A k ow, pls.head? = some ⟨A, k, xs.length, ow⟩ /\ ys.length = xs.length /\ a0M ow false r.E τ ys A k /\ ∀ g, ow = some g -> g ∉ ows pls'
omit [∀ E, Rp (I E)] in
theorem c07 {E : TypeId} {fl : Bool} {l : Nat} {y : List (I E) × List Nat × List (Option Nat)} (h : b1q tb O (.row E fl) (.vw l) = some y) : y.2.2 = [some l] := by
 simp only [b1q] at h
 split at h
 ·replace h := bind_some h
  obtain ⟨ys, hys, h⟩ := h
  cases fl <;> rename_i fl' _ <;> cases fl' <;> first | (cases h; rfl) | cases h
 ·cases h
def b5u (tb : Tab I) (r : Rio I) (disp : a0T I) (ρ : Type) (O : Obs I) (nb : Nat) (ps : List (PV I)) (k : Ef I -> Option ρ) : Option ρ := match ps with
 | .vw l :: ps' => Option.bind (a8Q tb disp O (roO [] (Y7 (grN O (.row r.E false :: r.ps) (.vw l :: ps')) O)) nb (.row r.E false :: r.ps) (.vw l :: ps')) fun a =>
   bif b7S (grN O (.row r.E false :: r.ps) (.vw l :: ps')) a.2 then Option.bind (b1P r.ps (r.run a.1.1) a.1.2) fun res =>
    k ⟨a9w ((pvT tb nb (r.rs ++ Y0 r.ps) res.1).take r.rs.length), (Q8 O a.2.pub ++ a2x a.2.all ++ a5F a.2.gv ((pvT tb nb (r.rs ++ Y0 r.ps) res.1).drop r.rs.length)) ++ [(l, some (.row r.E res.2 false))], obT (r.rs ++ Y0 r.ps) res.1⟩ else none
 | _ => none
def c6o (tb : Tab I) (r : Rio I) : Ans I := ⟨r.f, b5u tb r⟩
theorem c5J (ht : TabOk P tb) {r : Rio I} (hr : c1B P r) : EntOk P (c6o tb r) := by
 refine ⟨fun disp ρ O nb ps k => ?_, fun disp hd O nb ps ef he => ?_⟩
 ·show b5u tb r disp ρ O nb ps k = (b5u tb r disp (Ef I) O nb ps some).bind k
  unfold b5u
  split
  ·rename_i l0 ps'
   simp only [Option.bind_assoc]
   refine c2e fun a => ?_
   cases b7S (grN O (.row r.E false :: r.ps) (.vw l0 :: ps')) a.2
   ·rfl
   ·simp only [cond_true, Option.bind_assoc]
    rfl
  ·rfl
 ·intro X c σ s n F vs hX hO h hvs hfree
  have he' : b5u tb r disp (Ef I) O nb ps some = some ef := he
  unfold b5u at he'
  split at he'
  rotate_left
  ·cases he'
  rename_i l0 ps'
  replace he' := bind_some he'
  obtain ⟨a, ha, he'⟩ := he'
  replace he' := k7 he'
  obtain ⟨hchk, he'⟩ := he'
  replace he' := bind_some he'
  obtain ⟨res, hres, he'⟩ := he'
  cases he'
  obtain ⟨a, acc⟩ := a
  obtain ⟨res, ys⟩ := res
  have hrow0 : ∃ rest, acc.all = some l0 :: rest := by
   obtain ⟨x, hx, e⟩ := bind_some ha
   obtain ⟨y, hy, e⟩ := bind_some e
   cases e
   exact ⟨y.2.all, by show x.2.2 ++ y.2.all = _; rw [c07 hx]; rfl⟩
  have hO0 : ∃ E, ∃ xs : List (I E), ∃ fl, O l0 = some (some (.row E xs fl)) := by
   obtain ⟨x, hx, e⟩ := bind_some ha
   exact a8W (ls := x.2.1) (rows := x.2.2) hx l0 (by rw [c07 hx]; simp)
  have hfree : a2k (apU s.O (Q8 O acc.pub ++ a2x acc.all ++ a5F acc.gv ((pvT tb nb (r.rs ++ Y0 r.ps) res).drop r.rs.length))) nb (obT (r.rs ++ Y0 r.ps) res) = true /\ l0 ∉ rng nb (obT (r.rs ++ Y0 r.ps) res).length := by
   have hf : a2k (apU s.O ((Q8 O acc.pub ++ a2x acc.all ++ a5F acc.gv ((pvT tb nb (r.rs ++ Y0 r.ps) res).drop r.rs.length)) ++ [(l0, some (Ob.row r.E ys false))])) nb (obT (r.rs ++ Y0 r.ps) res) = true := hfree
   rw [a3I] at hf
   rw [a1R] at hf ⊢
   have hne : l0 ∉ rng nb (obT (r.rs ++ Y0 r.ps) res).length := fun hm => by
    have := hf l0 hm
    simp [apU, Q4] at this
   refine ⟨fun l hl => ?_, hne⟩
   have h1 := hf l hl
   have e : l ≠ l0 := fun e => hne (by rw [<- e]; exact hl)
   simpa [apU, Q5 e] using h1
  obtain ⟨hfree, hl0n⟩ := hfree
  simp only [b7S, Bool.and_eq_true] at hchk
  obtain ⟨⟨q1, q2⟩, q3⟩ := hchk
  obtain ⟨r1, r2⟩ := a7a q1
  have hgr : ∀ l, some l ∈ acc.all -> l ∈ grN O (.row r.E false :: r.ps) (.vw l0 :: ps') := fun l hl => by
   have := (List.all_eq_true.1 q2) _ hl
   exact a0i.1 this
  have hrv : ∀ l ∈ acc.rv, l ∉ grN O (.row r.E false :: r.ps) (.vw l0 :: ps') := fun l hl => by
   have := (List.all_eq_true.1 q3) _ hl
   exact a0W.1 (by simpa using this)
  obtain ⟨τ1, p1, p2, p3, p4, p5, p6⟩ := h.pubs hO acc.pub
  have hvs1 := RVs.step p2 _ _ hvs
  have hpubO : ∀ {l : Nat}, (∀ E (xs : List (I E)), O l ≠ some (some (.row E xs false))) -> (Z2 s O acc.pub).O l = s.O l := fun {l} hn => by
   show apU s.O (Q8 O acc.pub) l = s.O l
   apply a26
   intro hm
   have hp : ∀ {ls : List Nat}, l ∈ a0X (Q8 O ls) -> ∃ E, ∃ xs : List (I E), O l = some (some (.row E xs false)) := by
    intro ls
    induction ls with
    | nil => intro h; simp [Q8, a0X] at h
    | cons a r ih =>
      intro h
      simp only [Q8] at h
      split at h
      ·rename_i E xs e
       simp only [a0X, List.map_cons, List.mem_cons] at h
       rcases h with rfl | h
       ·exact ⟨E, xs, e⟩
       ·exact ih h
      ·exact ih h
   obtain ⟨E, xs, e⟩ := hp hm
   exact hn E xs e
  have hOv : ∀ l T ls w, O l = some (some (.var T ls w)) -> (Z2 s O acc.pub).O l = some (some (.var T ls w)) := fun l T ls w ho => by
   rw [hpubO (fun E xs e => by rw [ho] at e; cases e)]; exact hO l _ ho
  have hOc : ∀ l o, roO [] (Y7 (grN O (.row r.E false :: r.ps) (.vw l0 :: ps')) O) l = some (some o) -> roO [] (Y7 (grN O (.row r.E false :: r.ps) (.vw l0 :: ps')) (Z2 s O acc.pub).O) l = some (some o) := by
   intro l o hl
   unfold roO Y7 at hl ⊢
   cases hm : K9 l (grN O (.row r.E false :: r.ps) (.vw l0 :: ps')) with
   | true =>
     rw [hm] at hl
     cases hol : O l with
     | none => rw [hol] at hl; simp [K9] at hl
     | some x => rw [hol] at hl; simp [K9] at hl
   | false =>
     rw [hm] at hl
     simp only [cond_false, K9] at hl ⊢
     have hne : ∀ E (xs : List (I E)), O l ≠ some (some (.row E xs false)) := fun E xs e => by rw [e] at hl; simp at hl
     rw [hpubO hne]
     cases hol : O l with
     | none => rw [hol] at hl; simp at hl
     | some x =>
       cases x with
       | none => rw [hol] at hl; simp at hl
       | some o' => rw [hO l o' hol]; rw [hol] at hl; exact hl
  have hlv : ∀ l, some l ∈ acc.all -> (∃ E, ∃ xs : List (I E), ∃ fl, O l = some (some (.row E xs fl))) \/ (∃ T ls, O l = some (some (.var T ls true))) -> Z9 (Z2 s O acc.pub) l := fun l hl hx => by
   rcases hx with ⟨E, xs, fl, ho⟩ | ⟨T, ls, ho⟩
   ·exact ⟨_, (p6 l (r2 l hl)).trans (hO l _ ho)⟩
   ·exact ⟨_, hOv l _ _ _ ho⟩
  have core : ∀ M : Nat -> Prop, (∀ b, M b -> τ1.N <= b \/ ∃ l ∈ grN O (.row r.E false :: r.ps) (.vw l0 :: ps'), Z9 (Z2 s O acc.pub) l /\ ∃ p, c l = some p /\ p.w = some b) -> _ := fun M hM =>
   a54 ht hd hX p3 (fun l E xs fl e => b2R ⟨fl, e⟩ ⟨fl, hO l _ e⟩) (fun l E xs e => (hpubO (fun E' xs' e' => by rw [e] at e'; cases e')).trans (hO l _ e)) hOv p4 p5 hOc hM (nb := nb) ha hvs1 (fun _ h => h) r2 hrv
  have fin : ∀ (pls : List Pl), a7E P (fun b => τ1.N <= b \/ b ∈ ows pls) τ1 (.row r.E false :: r.ps) a vs pls -> At c acc.all pls -> a5S c O acc.gv (a1x (.row r.E false :: r.ps) vs) -> (∀ l, some l ∈ acc.all -> (∃ E, ∃ xs : List (I E), ∃ fl, O l = some (some (.row E xs fl))) \/ ∃ T v, (l, T, v) ∈ acc.gv) ->
   (∀ x ∈ acc.gv, some x.1 ∈ acc.all) -> acc.gv.map (fun x => x.2) = a6c (.row r.E false :: r.ps) -> a5B P r.f vs σ (Stp X.M σ) fun v τ => ∃ c', Cx.le c c' /\ Rel X c' τ (apE s nb ⟨a9w ((pvT tb nb (r.rs ++ Y0 r.ps) res).take r.rs.length), Q8 O acc.pub ++ a2x acc.all ++ a5F acc.gv ((pvT tb nb (r.rs ++ Y0 r.ps) res).drop r.rs.length) ++ [(l0, some (.row r.E ys false))], obT (r.rs ++ Y0 r.ps) res⟩) n F /\
     RV X c' τ (a9w ((pvT tb nb (r.rs ++ Y0 r.ps) res).take r.rs.length)) v := by
   intro pls k1 k2 k3 k4 k5 k6
   have hgv : ∀ x ∈ acc.gv, ∃ ls, O x.1 = some (some (.var x.2.1 ls true)) := by
    have : ∀ {gv : List (Nat × TypeId × V)} {bs : List Nat}, a5S c O gv bs -> ∀ x ∈ gv, ∃ ls, O x.1 = some (some (.var x.2.1 ls true)) := by
     intro gv
     induction gv with
     | nil => intro bs _ x hx; cases hx
     | cons y r ih =>
       intro bs ⟨b, bs', ls, _, e2, _, e4⟩ x hx
       rcases List.mem_cons.1 hx with rfl | hx
       ·exact ⟨ls, e2⟩
       ·exact ih e4 x hx
    exact this k3
   have hlive : ∀ l, some l ∈ acc.all -> Z9 (Z2 s O acc.pub) l := fun l hl => hlv l hl ((k4 l hl).imp id fun ⟨T, v, hm⟩ => by
    obtain ⟨ls, e⟩ := hgv _ hm
    exact ⟨T, ls, e⟩)
   have hnd : (ows pls).Nodup := At.nodup p3 k2 r1 hlive
   have hown : ∀ g ∈ ows pls, ∃ l p, some l ∈ acc.all /\ c l = some p /\ p.w = some g := k2.mem
   have hownM : ∀ g ∈ ows pls, X.M g := fun g hg => by
    obtain ⟨l, p, a1, a2, a3⟩ := hown g hg
    exact p3.mine l p g (hlive l a1) a2 a3
   refine a5B.mono (hr τ1 a.1 a.2 vs pls res ys k1 hnd hres) p1.symm fun v τ hst ⟨ws, us, pls', hpost, A0, kk0, ow0, z1, z2, z3, z4⟩ => ⟨τ, rfl, p2.trans (hst.mono fun b _ hb => hownM b hb), ?_⟩
   let kl := acc.all.filterMap id
   have hkl : ∀ l, l ∈ kl ↔ some l ∈ acc.all := fun l => by simp [kl, List.mem_filterMap]
   let s2 : St I := ⟨s.n, s.F, Y7 kl (Z2 s O acc.pub).O, s.nx⟩
   have h2 : Rel X c τ1 s2 n F := p3.less (fun l o ho => (Y4 ho).2) (fun l ho => a2j.1 ho)
   have hn2 : ∀ l p g, Z9 s2 l -> c l = some p -> p.w = some g -> ¬ g ∈ ows pls := fun l p g ⟨o, ho⟩ hc hw hg => by
    obtain ⟨m1, m2⟩ := Y4 ho
    obtain ⟨l', p', a1, a2, a3⟩ := hown g hg
    exact m1 ((hkl l).2 (by rw [p3.inj l l' p p' g ⟨o, m2⟩ (hlive l' a1) hc a2 hw a3]; exact a1))
   have hi2 : ∀ g, g ∈ ows pls -> notIn c τ1 s2 g := fun g hg => by
    obtain ⟨l', p', a1, a2, a3⟩ := hown g hg
    exact (p3.owned (hlive l' a1) a2 a3).sub fun l E E' u xs q e => (Y4 e).2
   have h3 : Rel X c τ s2 n F := h2.stepG hst hownM hn2 hi2
   have hOpub : apU s.O (Q8 O acc.pub ++ a2x acc.all) = Y7 kl (Z2 s O acc.pub).O := by
    rw [a3I]
    funext l
    exact b3p fun l hl => by obtain ⟨o, ho⟩ := hlive l hl; intro e; have := ho; rw [show (Z2 s O acc.pub).O l = apU s.O (Q8 O acc.pub) l from rfl, e] at this; cases this
   have hgvO : ∀ x ∈ acc.gv, ∃ ls, (Z2 s O acc.pub).O x.1 = some (some (.var x.2.1 ls true)) := fun x hx => by
    obtain ⟨ls, e⟩ := hgv x hx
    exact ⟨ls, hOv _ _ _ _ e⟩
   have hfree2 : ∀ l ∈ rng nb (obT (r.rs ++ Y0 r.ps) res).length, Y7 kl (Z2 s O acc.pub).O l = none /\ l ∉ acc.gv.map (·.1) := by
    rw [a1R] at hfree
    intro l hl
    have h0 := hfree l hl
    rw [a3I, hOpub] at h0
    by_cases hk : l ∈ a0X (a5F acc.gv ((pvT tb nb (r.rs ++ Y0 r.ps) res).drop r.rs.length))
    ·exact absurd h0 (b2o (O' := s.O) hk).2
    ·rw [a26 hk] at h0
     refine ⟨h0, fun hm => ?_⟩
     simp only [List.mem_map] at hm
     obtain ⟨x, hx, e⟩ := hm
     have := (hkl x.1).2 (k5 x hx)
     rw [e] at this
     have hl2 := hlive l ((hkl l).1 this)
     obtain ⟨o, ho⟩ := hl2
     have := a2j.1 h0
     rw [ho] at this; cases this
   have htt : TT τ (r.rs ++ Y0 r.ps) res (ws ++ us) pls' := hpost.tt
   have hob := a72 htt
   obtain ⟨h4, h5⟩ := Rel.addN (nb := nb) h3 (a1R.2 fun l hl => (hfree2 l hl).1) hob hpost.nodup fun g hg => by
    have ho := hpost.own g hg
    refine ⟨ho.1.elim (fun h => .inl (Nat.le_trans p3.base h)) (hownM g), (ho.1.elim (fun h => h2.fresh h) (hi2 g)).step h2 hst hn2 hi2, fun l p ⟨o, ho'⟩ hc hw => ?_⟩
    obtain ⟨m1, m2⟩ := Y4 ho'
    rcases ho.1 with hge | hin
    ·have := (p3.objs l o m2).lt hc hw
     have : τ1.w.heap.size <= g := hge
     omega
    ·obtain ⟨l', p', a1, a2, a3⟩ := hown g hin
     exact m1 ((hkl l).2 (by rw [p3.inj l l' p p' g ⟨o, m2⟩ (hlive l' a1) hc a2 hw a3]; exact a1))
   obtain ⟨hps, hlen⟩ := b2G (X := X) (c := W9 c nb pls') (nb := nb) ht hpost.tt a2u
   have htk := RVs.take r.rs.length _ _ hps
   have hdr := RVs.drop r.rs.length _ _ hps
   rw [List.take_left' hpost.len] at htk
   rw [List.drop_left' hpost.len] at hdr
   have hold : ∀ l, (Z2 s O acc.pub).O l ≠ none -> W9 c nb pls' l = c l := fun l hl => by
    have key : ∀ {ps : List Pl} {c : Cx} {nb : Nat}, (l < nb \/ nb + ps.length <= l) -> W9 c nb ps l = c l := by
     intro ps
     induction ps with
     | nil => intro c nb _; rfl
     | cons p ps ih =>
       intro c nb h
       simp only [W9]
       rw [ih (by simp only [List.length_cons] at h; omega)]
       have : l ≠ nb := by simp only [List.length_cons] at h; omega
       simp [a0t, this]
    apply key
    apply Classical.byContradiction
    intro hn
    rw [not_or] at hn
    exact hl (a2j.1 (hfree2 l (a27.2 ⟨by omega, by rw [hob.1]; omega⟩)).1)
   have hvarb : ∀ {gv : List (Nat × TypeId × V)} {bs : List Nat}, a5S c O gv bs -> ∀ x ∈ gv, ∀ p g, c x.1 = some p -> p.w = some g -> g ∈ bs := by
    intro gv
    induction gv with
    | nil => intro bs _ x hx; cases hx
    | cons y r ih =>
      intro bs ⟨b, bs', ls, e1, e2, e3, e4⟩ x hx p g hc hw
      subst e1
      rcases List.mem_cons.1 hx with rfl | hx
      ·rw [e3] at hc; cases hc; cases hw; simp
      ·simp [ih e4 x hx p g hc hw]
   have k6' : acc.gv.map (fun x => x.2) = a6c r.ps := k6
   have hat : ∀ (i : Nat) (y : Nat × V) (p : PV I), (acc.gv.map fun x => (x.1, x.2.2))[i]? = some y -> ((pvT tb nb (r.rs ++ Y0 r.ps) res).drop r.rs.length)[i]? = some p -> ∃ nb' z, p = pvV tb nb' y.2 z := fun i y p hi hp => by
    refine b7c (tb := tb) (vs := r.rs ++ Y0 r.ps) (nb := nb) (x := res) (i := r.rs.length + i) (v := y.2) ?_ (by rw [List.getElem?_drop] at hp; exact hp)
    rw [List.getElem?_append_right (by simp), Nat.add_sub_cancel_left, <- a4J, <- k6']
    rw [List.getElem?_map] at hi
    simp only [List.map_map, List.getElem?_map]
    cases hgi : acc.gv[i]? with
    | none => rw [hgi] at hi; cases hi
    | some z => rw [hgi] at hi; cases hi; rfl
   have h6 := Rel.asgW (pls := pls') ht p3 h5 (a69 hpost.out k3 k6 hgvO) hdr (fun i y p hi hp hag => by
    obtain ⟨nb', z, e⟩ := hat i y p hi hp
    rw [e]; exact b5q hag)
    (fun i y p hi hp hag => by
      obtain ⟨nb', z, e⟩ := hat i y p hi hp
      rw [e]; exact b5i hag)
    (fun l hl => hold l (by
      simp only [List.mem_map] at hl
      obtain ⟨x, hx, rfl⟩ := hl
      obtain ⟨ls, e⟩ := hgvO x hx
      rw [e]; simp))
    (fun l hl p g hc hw => by
      simp only [List.mem_map] at hl
      obtain ⟨x, hx, rfl⟩ := hl
      exact p3.mine x.1 p g (hlive _ (k5 x hx)) hc hw)
    (fun l ⟨o, ho⟩ => by
      by_cases hm : l ∈ rng nb (obT (r.rs ++ Y0 r.ps) res).length
      ·right
       obtain ⟨a1, a2⟩ := a27.1 hm
       have hlt : l - nb < pls'.length := by rw [<- hob.1]; omega
       refine ⟨pls'[l - nb], List.getElem_mem _, ?_⟩
       have := a2u (c := c) (nb := nb) (l - nb) pls'[l - nb] (List.getElem?_eq_getElem hlt)
       rw [show nb + (l - nb) = l from by omega] at this
       exact this
      ·left
       have ho' : a0L (Y7 kl (Z2 s O acc.pub).O) nb (obT (r.rs ++ Y0 r.ps) res) l = some (some o) := ho
       rw [a0P hm] at ho'
       obtain ⟨_, m2⟩ := Y4 ho'
       exact ⟨⟨o, m2⟩, hold l (by rw [m2]; simp)⟩)
    (fun l hl p hc g hw hm => by
      simp only [List.mem_map] at hl
      obtain ⟨x, hx, rfl⟩ := hl
      exact (hpost.own g hm).2 (hvarb k3 x hx p g hc hw))
    (fun l hl p hc g hw => by
      simp only [List.mem_map] at hl
      obtain ⟨x, hx, rfl⟩ := hl
      obtain ⟨ls, e⟩ := hgvO x hx
      exact (((p3.owned ⟨_, e⟩ hc hw).sub (s' := s2) fun l E E' u xs q e => (Y4 e).2).step h2 hst hn2 hi2).grow h3 h4 (a55 hob.not))
   refine ⟨_, h4, ?_, by rw [hpost.ret]; exact b79 htk⟩
   have hO2 : a0L (apU s.O (Q8 O acc.pub ++ a2x acc.all ++ a5F acc.gv ((pvT tb nb (r.rs ++ Y0 r.ps) res).drop r.rs.length))) nb (obT (r.rs ++ Y0 r.ps) res) =
    asgW (Z2 s O acc.pub).O (acc.gv.map fun x => (x.1, x.2.2)) (acc.gv.map (·.1)) ((pvT tb nb (r.rs ++ Y0 r.ps) res).drop r.rs.length) (a0L (Y7 kl (Z2 s O acc.pub).O) nb (obT (r.rs ++ Y0 r.ps) res)) := by
    rw [a3I, hOpub]
    exact b6x fun x hx => ⟨hgvO x hx, fun hm => (hfree2 x.1 hm).2 (List.mem_map.2 ⟨x, hx, rfl⟩)⟩
   have e : apE s nb ⟨a9w ((pvT tb nb (r.rs ++ Y0 r.ps) res).take r.rs.length), Q8 O acc.pub ++ a2x acc.all ++ a5F acc.gv ((pvT tb nb (r.rs ++ Y0 r.ps) res).drop r.rs.length) ++ [(l0, some (.row r.E ys false))], obT (r.rs ++ Y0 r.ps) res⟩ =
    Q0 ⟨s.n, s.F, asgW (Z2 s O acc.pub).O (acc.gv.map fun x => (x.1, x.2.2)) (acc.gv.map (·.1)) ((pvT tb nb (r.rs ++ Y0 r.ps) res).drop r.rs.length) (a0L (Y7 kl (Z2 s O acc.pub).O) nb (obT (r.rs ++ Y0 r.ps) res)), s.nx⟩ l0 (some (.row r.E ys false)) := by
    have e1 : apU s.O (Q8 O acc.pub ++ a2x acc.all ++ a5F acc.gv ((pvT tb nb (r.rs ++ Y0 r.ps) res).drop r.rs.length) ++ [(l0, some (.row r.E ys false))]) = upF (apU s.O (Q8 O acc.pub ++ a2x acc.all ++ a5F acc.gv ((pvT tb nb (r.rs ++ Y0 r.ps) res).drop r.rs.length))) l0 (some (.row r.E ys false)) := by rw [a3I]; rfl
    simp only [apE, e1, b9k hl0n, hO2, Q0]
   rw [e]
   obtain ⟨a5D, hall⟩ := hrow0
   have hm0 : some l0 ∈ acc.all := by rw [hall]; simp
   obtain ⟨pl0, pls0, e0, hc0, _⟩ := (by rw [hall] at k2; exact k2 : At c (some l0 :: a5D) pls)
   have hc0 : c l0 = some pl0 := hc0
   rw [e0] at z1
   cases z1
   have hl0v : l0 ∉ acc.gv.map (·.1) := fun hm => by
    simp only [List.mem_map] at hm
    obtain ⟨x, hx, e⟩ := hm
    obtain ⟨ls, e2⟩ := hgv x hx
    obtain ⟨E, xs, fl, e3⟩ := hO0
    rw [<- e, e2] at e3; cases e3
   obtain ⟨o0, hlive0⟩ := hlive l0 hm0
   have hdead : asgW (Z2 s O acc.pub).O (acc.gv.map fun x => (x.1, x.2.2)) (acc.gv.map (·.1)) ((pvT tb nb (r.rs ++ Y0 r.ps) res).drop r.rs.length) (a0L (Y7 kl (Z2 s O acc.pub).O) nb (obT (r.rs ++ Y0 r.ps) res)) l0 = some none := by
    rw [b0A hl0v, a0P hl0n]
    unfold Y7
    rw [a0i.2 ((hkl l0).2 hm0), hlive0]
    rfl
   have hc0' := (hold l0 (by rw [hlive0]; simp)).trans hc0
   refine h6.revive ⟨A0, kk0, ow0, by rw [z2]; exact hc0', z3⟩ fun p2 g hp2 hg => ?_
   rw [hc0'] at hp2
   cases hp2
   refine ⟨hownM g (by rw [e0]; simp only at hg; subst hg; simp [ows]), ?_, fun l' p' _ ⟨o', ho'⟩ hc' hw' => ?_⟩
   ·have hn := (((hi2 g (by rw [e0]; simp only at hg; subst hg; simp [ows])).step h2 hst hn2 hi2).grow h3 h4 (a55 hob.not) : notIn (W9 c nb pls') τ (addN s2 nb (obT (r.rs ++ Y0 r.ps) res)) g)
    exact hn.sub fun l E E' u xs q e => b3i (by simpa using e)
   have ho' : asgW (Z2 s O acc.pub).O (acc.gv.map fun x => (x.1, x.2.2)) (acc.gv.map (·.1)) ((pvT tb nb (r.rs ++ Y0 r.ps) res).drop r.rs.length) (a0L (Y7 kl (Z2 s O acc.pub).O) nb (obT (r.rs ++ Y0 r.ps) res)) l' = some (some o') := ho'
   by_cases hm : l' ∈ rng nb (obT (r.rs ++ Y0 r.ps) res).length
   ·obtain ⟨a1, a2⟩ := a27.1 hm
    have hlt : l' - nb < pls'.length := by rw [<- hob.1]; omega
    have hn := a2u (c := c) (nb := nb) (l' - nb) pls'[l' - nb] (List.getElem?_eq_getElem hlt)
    rw [show nb + (l' - nb) = l' from by omega, hc'] at hn
    cases hn
    exact z4 g hg (b5y.2 ⟨_, List.getElem_mem _, hw'⟩)
   ·have hlv' : Z9 (Z2 s O acc.pub) l' := by
     by_cases hv : l' ∈ acc.gv.map (·.1)
     ·simp only [List.mem_map] at hv
      obtain ⟨x, hx, e⟩ := hv
      rw [<- e]
      exact hlive _ (k5 x hx)
     ·rw [b0A hv, a0P hm] at ho'
      exact ⟨_, (Y4 ho').2⟩
    have hcc : c l' = some p' := by
     obtain ⟨o2, ho2⟩ := hlv'
     rw [<- hold l' (by rw [ho2]; simp)]; exact hc'
    have el := p3.inj l' l0 p' _ g hlv' ⟨_, hlive0⟩ hcc hc0 hw' hg
    rw [el, hdead] at ho'
    cases ho'
  obtain ⟨pls0, k1, k2, k3, k4, k5, k6⟩ := core (fun _ => False) (fun _ h => h.elim)
  obtain ⟨pls, k1', k2', _⟩ := core (fun b => τ1.N <= b \/ b ∈ ows pls0) (fun b hb => hb.imp id fun hb => by
   obtain ⟨l, p, a1, a2, a3⟩ := k2.mem b hb
   refine ⟨l, hgr l a1, hlv l a1 ((k4 l a1).imp id fun ⟨T, v, hm⟩ => ?_), p, a2, a3⟩
   have : ∀ {gv : List (Nat × TypeId × V)} {bs : List Nat}, a5S c O gv bs -> ∀ x ∈ gv, ∃ ls, O x.1 = some (some (.var x.2.1 ls true)) := by
    intro gv
    induction gv with
    | nil => intro bs _ x hx; cases hx
    | cons y r ih =>
      intro bs ⟨b, bs', ls, _, e2, _, e4⟩ x hx
      rcases List.mem_cons.1 hx with rfl | hx
      ·exact ⟨ls, e2⟩
      ·exact ih e4 x hx
   obtain ⟨ls, e⟩ := this k3 _ hm
   exact ⟨T, ls, e⟩)
  have hsame : ows pls = ows pls0 := by
   have : ∀ {rows : List (Option Nat)} {p q : List Pl}, At c rows p -> At c rows q -> ows p = ows q := by
    intro rows
    induction rows with
    | nil => intro p q h1 h2; cases h1; cases h2; rfl
    | cons x r ih =>
      intro p q ⟨a, c8i, e1, g1, h1⟩ ⟨b, bs, e2, g2, h2⟩
      subst e1
      subst e2
      have hr := ih h1 h2
      simp only [ows, List.filterMap_cons] at hr ⊢
      have : a.w = b.w := by
       cases x with
       | none => simp only at g1 g2; rw [g1, g2]
       | some l => simp only at g1 g2; rw [g1] at g2; cases g2; rfl
      rw [this, hr]
   exact this k2' k2
  rw [<- hsame] at k1'
  exact fin pls k1' k2' k3 k4 k5 k6
end
end Go.Qx
end
section
namespace Go.Qx
open Go Go.RowKit Go.Sx
@[reducible] def c6y : Rp Unit where
 sz := 1
 pos := by decide
 agg := false
 cells := fun _ _ _ => False
 len := fun h => h.elim
 one := fun h => h.elim
 mono := fun _ h => h
@[reducible] def rpK (k : IntKind) : Rp Int := rpIK k
@[reducible] def Z1 {α β : Type} (a : Rp α) (b : Rp β) : Rp (α × β) where
 sz := a.sz + b.sz
 pos := Nat.lt_of_lt_of_le a.pos (Nat.le_add_right _ _)
 agg := true
 cells := fun σ x cs => ∃ c1 c2, cs = c1 ++ c2 /\ a.cells σ x.1 c1 /\ b.cells σ x.2 c2
 len := fun ⟨_, _, e, h1, h2⟩ => by rw [e, List.length_append, a.len h1, b.len h2]
 one := fun ⟨_, _, e, h1, h2⟩ v hv => by
  rw [e, List.mem_append] at hv
  exact hv.elim (a.one h1 v) (b.one h2 v)
 mono := fun k ⟨c1, c2, e, h1, h2⟩ => ⟨c1, c2, e, a.mono k h1, b.mono k h2⟩
@[reducible] def b2S {γ α : Type} (to : γ -> α) (a : Rp α) : Rp γ where
 sz := a.sz
 pos := a.pos
 agg := true
 cells := fun σ x cs => a.cells σ (to x) cs
 len := fun h => a.len h
 one := fun h => a.one h
 mono := fun k h => a.mono k h
structure TE where
 E : TypeId
 α : Type
 rp : Rp α
def c2a : List TE -> TypeId -> TE
 | [], _ => ⟨0, Unit, c6y⟩
 | e :: r, E => bif Nat.beq e.E E then e else c2a r E
section
variable {I : TypeId -> Type} [∀ E, Rp (I E)]
structure Fd (I : TypeId -> Type) [∀ E, Rp (I E)] (α : Type) (rp : Rp α) where
 lf : α -> List (PV I)
 pa : (ρ : Type) -> List (PV I) -> (α -> List (PV I) -> Option ρ) -> Option ρ
 lf_ok : ∀ (X : Cxt) (c : Cx) (σ : S) (x : α) (cs : List Value), rp.cells σ x cs -> RG X c σ (lf x) cs
 pa_ok : ∀ (ρ : Type) (ls : List (PV I)) (f : α -> List (PV I) -> Option ρ) (r : ρ), pa ρ ls f = some r -> ∃ x rest, f x rest = some r /\
  ∀ (X : Cxt) (c : Cx) (σ : S) (cs : List Value), RG X c σ ls cs -> ∃ c1 c2, cs = c1 ++ c2 /\ rp.cells σ x c1 /\ RG X c σ rest c2
theorem RG.cons1 {X : Cxt} {c : Cx} {σ : S} {p : PV I} {r : List (PV I)} {cs : List Value} (h : RG X c σ (p :: r) cs) (hp : a6e p = false) : ∃ v c2, cs = [v] ++ c2 /\ RV X c σ p v /\ RG X c σ r c2 := by
 simp only [RG] at h
 obtain ⟨a, c2, e, h1 | ⟨_, v, e1, h1⟩, h2⟩ := h
 ·exact (by cases p <;> first | exact h1.elim | cases hp)
 ·exact ⟨v, c2, by rw [e, e1], h1, h2⟩
theorem RG.cns {X : Cxt} {c : Cx} {σ : S} {p : PV I} {ps : List (PV I)} {v : Value} {cs : List Value} (h0 : a6e p = false) (h : RV X c σ p v) (k : RG X c σ ps cs) : RG X c σ (p :: ps) (v :: cs) := by
 simp only [RG]
 exact ⟨[v], cs, rfl, .inr ⟨h0, v, rfl, h⟩, k⟩
theorem RG.nl {X : Cxt} {c : Cx} {σ : S} : RG X c σ ([] : List (PV I)) [] := by simp only [RG]
theorem a3q {X : Cxt} {c : Cx} {σ : S} {k : IntKind} {n : Int} : RV X c σ (.int k n : PV I) (.int k n) := by simp only [RV]
theorem a50 {X : Cxt} {c : Cx} {σ : S} {b : Bool} : RV X c σ (.bool b : PV I) (.bool b) := by simp only [RV]
theorem b5v {X : Cxt} {c : Cx} {σ : S} {b : ByteArray} : RV X c σ (.str b : PV I) (.string b) := by simp only [RV]
theorem a2W {X : Cxt} {c : Cx} {σ : S} {E : TypeId} : RV X c σ (.nl E : PV I) (.slice none 0 0) := by simp only [RV]; exact ⟨none, rfl⟩
theorem c7i {X : Cxt} {c : Cx} {σ : S} {v : Value} : RV X c σ (.any : PV I) v := by simp only [RV]
def a6a (k : IntKind) : Fd I Int (rpK k) where
 lf := fun n => [.int k n]
 pa := fun _ ls f => match ls with
  | .int k' n :: r => if k' = k then f n r else none
  | _ => none
 lf_ok := fun X c σ x cs h => by
  have e : cs = [.int k x] := h
  rw [e]
  exact RG.single rfl (by simp only [RV])
 pa_ok := fun ρ ls f r h => by
  split at h
  ·rename_i k' n rest
   obtain ⟨e, h2⟩ := a0C h
   clear h
   subst e
   refine ⟨n, rest, h2, fun X c σ cs hl => ?_⟩
   obtain ⟨v, c2, e, h1, h2⟩ := hl.cons1 rfl
   simp only [RV] at h1
   subst h1
   exact ⟨_, c2, e, rfl, h2⟩
  ·cases h
def a6L : Fd I Bool rpBool where
 lf := fun n => [.bool n]
 pa := fun _ ls f => match ls with
  | .bool n :: r => f n r
  | _ => none
 lf_ok := fun X c σ x cs h => by
  have e : cs = [.bool x] := h
  rw [e]
  exact RG.single rfl (by simp only [RV])
 pa_ok := fun ρ ls f r h => by
  split at h
  ·rename_i n rest
   refine ⟨n, rest, h, fun X c σ cs hl => ?_⟩
   obtain ⟨v, c2, e, h1, h2⟩ := hl.cons1 rfl
   simp only [RV] at h1
   subst h1
   exact ⟨_, c2, e, rfl, h2⟩
  ·cases h
def b9e : Fd I ByteArray rpStr where
 lf := fun n => [.str n]
 pa := fun _ ls f => match ls with
  | .str n :: r => f n r
  | _ => none
 lf_ok := fun X c σ x cs h => by
  have e : cs = [.string x] := h
  rw [e]
  exact RG.single rfl (by simp only [RV])
 pa_ok := fun ρ ls f r h => by
  split at h
  ·rename_i n rest
   refine ⟨n, rest, h, fun X c σ cs hl => ?_⟩
   obtain ⟨v, c2, e, h1, h2⟩ := hl.cons1 rfl
   simp only [RV] at h1
   subst h1
   exact ⟨_, c2, e, rfl, h2⟩
  ·cases h
def a4k (E : TypeId) : Fd I (List (I E)) rpList where
 lf := fun xs => [.sl E xs false]
 pa := fun _ ls f => match ls with
  | .sl E' xs _ :: r => Option.bind (a3R E E' xs) fun ys => f ys r
  | .nl E' :: r => bif Nat.beq E' E then f [] r else none
  | _ => none
 lf_ok := fun X c σ xs cs h => by
  obtain ⟨A, k, e, hs⟩ : ∃ A k, cs = [.slice A (xs : List (I E)).length k] /\ Sl σ xs A k := h
  rw [e]
  refine RG.single rfl ?_
  simp only [RV]
  exact ⟨A, k, rfl, hs, fun e => by cases e⟩
 pa_ok := fun ρ ls f r h => by
  split at h
  ·rename_i E' xs fl rest
   obtain ⟨ys, hy, h⟩ := bind_some h
   obtain ⟨e, rfl⟩ := a1l hy
   subst e
   refine ⟨xs, rest, h, fun X c σ cs hl => ?_⟩
   obtain ⟨v, c2, e, h1, h2⟩ := hl.cons1 rfl
   simp only [RV] at h1
   obtain ⟨A, k, e1, hs, _⟩ := h1
   exact ⟨[v], c2, e, ⟨A, k, by rw [e1], hs⟩, h2⟩
  ·rename_i E' rest
   obtain ⟨_, h⟩ := k7 h
   refine ⟨[], rest, h, fun X c σ cs hl => ?_⟩
   obtain ⟨v, c2, e, h1, h2⟩ := hl.cons1 rfl
   simp only [RV] at h1
   obtain ⟨A, e1⟩ := h1
   exact ⟨[v], c2, e, ⟨A, 0, by rw [e1]; rfl, Sl.nil_ _ _ _ (Nat.zero_le _)⟩, h2⟩
  ·cases h
def b9h (E : TypeId) (fd : Fd I (I E) inferInstance) : Fd I (I E) inferInstance where
 lf := fun x => [.dat E x]
 pa := fun ρ ls f => match ls with
  | .dat E' x :: r => Option.bind (a8R E E' x) fun y => f y r
  | ls => fd.pa ρ ls f
 lf_ok := fun X c σ x cs h => RG.one h
 pa_ok := fun ρ ls f r h => by
  split at h
  ·rename_i E' x rest
   obtain ⟨y, hy, h⟩ := bind_some h
   obtain ⟨e, rfl⟩ := b2V hy
   subst e
   refine ⟨x, rest, h, fun X c σ cs hl => ?_⟩
   simp only [RG] at hl
   obtain ⟨a, c2, e, h1 | ⟨h1, _⟩, h2⟩ := hl
   ·exact ⟨a, c2, e, h1, h2⟩
   ·cases h1
  ·exact fd.pa_ok ρ _ f r h
def X9 {α β : Type} {ra : Rp α} {rb : Rp β} (a : Fd I α ra) (b : Fd I β rb) : Fd I (α × β) (Z1 ra rb) where
 lf := fun x => a.lf x.1 ++ b.lf x.2
 pa := fun ρ ls f => a.pa ρ ls fun x r => b.pa ρ r fun y r => f (x, y) r
 lf_ok := fun X c σ x cs ⟨c1, c2, e, h1, h2⟩ => by
  rw [e]
  exact RG.app _ _ _ _ (a.lf_ok X c σ _ _ h1) (b.lf_ok X c σ _ _ h2)
 pa_ok := fun ρ ls f r h => by
  obtain ⟨x, r1, h, k1⟩ := a.pa_ok ρ _ _ r h
  obtain ⟨y, r2, h, k2⟩ := b.pa_ok ρ _ _ r h
  refine ⟨(x, y), r2, h, fun X c σ cs hl => ?_⟩
  obtain ⟨c1, c2, e, h1, h2⟩ := k1 X c σ cs hl
  obtain ⟨c3, c4, e2, h3, h4⟩ := k2 X c σ c2 h2
  exact ⟨c1 ++ c3, c4, by rw [e, e2, List.append_assoc], ⟨c1, c3, rfl, h1, h3⟩, h4⟩
def a8U {γ α : Type} {rg : Rp γ} {ra : Rp α} (a : Fd I α ra) (to : γ -> α) (of : α -> γ) (h : ∀ x, to (of x) = x) (hc : ∀ σ x cs, rg.cells σ x cs ↔ ra.cells σ (to x) cs) : Fd I γ rg where
 lf := fun x => a.lf (to x)
 pa := fun ρ ls f => a.pa ρ ls fun x r => f (of x) r
 lf_ok := fun X c σ x cs hx => a.lf_ok X c σ _ _ ((hc σ x cs).1 hx)
 pa_ok := fun ρ ls f r hr => by
  obtain ⟨x, r1, hr, k1⟩ := a.pa_ok ρ _ _ r hr
  refine ⟨of x, r1, hr, fun X c σ cs hl => ?_⟩
  obtain ⟨c1, c2, e, h1, h2⟩ := k1 X c σ cs hl
  exact ⟨c1, c2, e, (hc σ _ _).2 (by rw [h]; exact h1), h2⟩
structure FE (I : TypeId -> Type) [∀ E, Rp (I E)] where
 E : TypeId
 fd : Fd I (I E) inferInstance
def c1v : List (FE I) -> TypeId -> Option (FE I)
 | [], _ => none
 | e :: r, E => bif Nat.beq e.E E then some e else c1v r E
def lfT (l : List (FE I)) (E : TypeId) (x : I E) : List (PV I) := match c1v l E with
 | some e => if h : E = e.E then e.fd.lf (h ▸ x) else [.dat E x]
 | none => [.dat E x]
def ofT (l : List (FE I)) (E : TypeId) (ls : List (PV I)) : Option (I E) := match c1v l E with
 | some e => if h : e.E = E then e.fd.pa (I E) ls fun x r => match r with
   | [] => some (h ▸ x)
   | _ => none else none
 | none => none
def a6v {α : Type} (p : α -> Prop) : List α -> Prop
 | [] => True
 | x :: r => p x /\ a6v p r
omit [∀ E, Rp (I E)] in
theorem a6v.mem {α : Type} {p : α -> Prop} : ∀ {l : List α}, a6v p l -> ∀ x ∈ l, p x
 | [], _, _, h => by cases h
 | _ :: _, h, x, hx => by
   rcases List.mem_cons.1 hx with rfl | hx
   ·exact h.1
   ·exact a6v.mem h.2 x hx
def asc {α : Type} : List (Nat × α) -> Nat -> Option α
 | [], _ => none
 | x :: r, k => bif Nat.beq x.1 k then some x.2 else asc r k
omit [∀ E, Rp (I E)] in
theorem a08 {α : Type} : ∀ {l : List (Nat × α)} {k : Nat} {a : α}, asc l k = some a -> (k, a) ∈ l
 | [], _, _, h => by cases h
 | x :: r, k, a, h => by
   simp only [asc] at h
   cases hk : Nat.beq x.1 k with
   | true =>
     rw [hk] at h
     cases h
     have := Nat.eq_of_beq_eq_true hk
     subst this
     simp
   | false =>
     rw [hk] at h
     exact List.mem_cons_of_mem _ (a08 h)
structure TabL (I : TypeId -> Type) [∀ E, Rp (I E)] where
 sz : List (TypeId × Nat)
 one : List (TypeId × Unit)
 fld : List (TypeId × List (Nat × TypeId))
 el : List (TypeId × TypeId)
 str : List (TypeId × Unit)
 bool : List (TypeId × Unit)
 ik : List (TypeId × IntKind)
 fe : List (FE I)
 inf : List (TypeId × Nat × Nat × List (PV I))
 st : List (TypeId × List (Nat × Nat))
 eq : List (TypeId × (List (PV I) -> List (PV I) -> Option Bool))
 arr : List (TypeId × (TypeId × Nat × Nat))
 fb : List (FuncId × Unit)
 nest : List (TypeId × (TypeId × Nat)) := []
def c4U (L : TabL I) : Tab I where
 sz := asc L.sz
 one := fun T => (asc L.one T).isSome
 off := fun T f => Option.bind (asc L.fld T) fun l => Option.bind l[f]? fun x => some x.1
 fty := fun T f => Option.bind (asc L.fld T) fun l => Option.bind l[f]? fun x => some x.2
 el := asc L.el
 isStr := fun T => (asc L.str T).isSome
 isBool := fun T => (asc L.bool T).isSome
 ik := asc L.ik
 lf := lfT L.fe
 of := ofT L.fe
 size := fun T => Option.bind (asc L.inf T) fun x => some x.1
 bytes := fun T => Option.bind (asc L.inf T) fun x => some x.2.1
 zero := fun T => Option.bind (asc L.inf T) fun x => some x.2.2
 flds := asc L.st
 eqF := fun T a b => Option.bind (asc L.eq T) fun f => f a b
 arr := asc L.arr
 fb := fun f => (asc L.fb f).isSome
 nest := asc L.nest
def b0Q (P : Program) (T : TypeId) : Nat -> List (Nat × TypeId) -> Prop
 | _, [] => True
 | i, x :: r => b5p P T i x.1 /\ (∃ fs fl, P.underlying T = some (.struct fs) /\ fs[i]? = some fl /\ fl.type = x.2) /\ b0Q P T (i + 1) r
omit [∀ E, Rp (I E)] in
theorem b0Q.at {P : Program} {T : TypeId} : ∀ {l : List (Nat × TypeId)} {i j : Nat} {x : Nat × TypeId}, b0Q P T i l -> l[j]? = some x -> b5p P T (i + j) x.1 /\ (∃ fs fl, P.underlying T = some (.struct fs) /\ fs[i + j]? = some fl /\ fl.type = x.2)
 | [], _, _, _, _, h => by simp at h
 | y :: r, i, 0, x, hf, h => by simp at h; subst h; exact ⟨hf.1, hf.2.1⟩
 | y :: r, i, j + 1, x, hf, h => by
   have := b0Q.at (i := i + 1) hf.2.2 (show r[j]? = some x by simpa using h)
   rwa [show i + 1 + j = i + (j + 1) by omega] at this
def c7h (P : Program) (T : TypeId) (sz by_ : Nat) (ls : List (PV I)) : Prop := ∃ z, K8 P T z sz by_ /\ ∀ X c σ, RG X c σ ls z.cells.toList
structure TabLOk (P : Program) (L : TabL I) : Prop where
 sz : a6v (fun x => b69 P x.1 x.2) L.sz
 one : a6v (fun x => a3z P x.1) L.one
 fld : a6v (fun x => b0Q P x.1 0 x.2) L.fld
 el : a6v (fun x => P.underlying x.1 = some (.slice x.2) /\ ∃ z b, K8 P x.2 z (Rp.sz (I x.2)) b /\ z.cells.size = Rp.sz (I x.2) /\ 0 < b) L.el
 str : a6v (fun x => P.underlying x.1 = some .string) L.str
 bool : a6v (fun x => P.underlying x.1 = some .bool) L.bool
 ik : a6v (fun x => P.underlying x.1 = some (.int x.2)) L.ik
 inf : a6v (fun x => c7h P x.1 x.2.1 x.2.2.1 x.2.2.2) L.inf
 st : a6v (fun x => (∃ fs, P.underlying x.1 = some (.struct fs) /\ fs.toList.mapM (fun f => (P.info? f.type).map fun i => (f.offset, i.size)) = some x.2) \/
  ∃ m e ie, P.underlying x.1 = some (.array m e) /\ P.info? e = some ie /\ x.2 = (List.range m).map fun j => (j * ie.size, ie.size)) L.st
 eq : a6v (fun x => ∀ (X : Cxt) (c : Cx) (σ : S) (ls ms : List (PV I)) (r : Bool) (cs ds : List Value), x.2 ls ms = some r -> RG X c σ ls cs -> RG X c σ ms ds ->
  P.eqGuardType P.depth x.1 = false /\ ∃ j, Nat.ble j 10000 = true /\ Sx.EqAt P j x.1 (.agg cs.toArray) (.agg ds.toArray) r) L.eq
 arr : a6v (fun x => P.underlying x.1 = some (.array x.2.2.1 x.2.1) /\ (P.info? x.2.1).map (·.size) = some x.2.2.2) L.arr
 fb : a6v (fun x => a8J P x.1) L.fb
omit [∀ E, Rp (I E)] in
theorem c6j {P : Program} {T e : TypeId} {m k b : Nat} {z : Value} {pl : List (Nat × Nat)} (hu : P.underlying T = some (.array m e)) (hi : K8 P e z k b) (hp : pl = (List.range m).map fun j => (j * k, k)) :
 ∃ m e ie, P.underlying T = some (.array m e) /\ P.info? e = some ie /\ pl = (List.range m).map fun j => (j * ie.size, ie.size) := by
 obtain ⟨i, h1, h2, h3, h4⟩ := hi
 exact ⟨m, e, i, hu, h1, by rw [hp, h3]⟩
omit [∀ E, Rp (I E)] in
theorem b1i {α : Type} {o : Option α} (h : o.isSome = true) : ∃ a, o = some a := Option.isSome_iff_exists.1 h
omit [∀ E, Rp (I E)] in
theorem K8.inj {P : Program} {T : TypeId} {z z' : Value} {a a' b b' : Nat} (h : K8 P T z a b) (k : K8 P T z' a' b') : z = z' /\ a = a' /\ b = b' := by
 obtain ⟨i, h1, h2, h3, h4⟩ := h
 obtain ⟨j, k1, k2, k3, k4⟩ := k
 rw [h1] at k1
 cases k1
 rw [h2] at k2
 cases k2
 exact ⟨rfl, h3.symm.trans k3, h4.symm.trans k4⟩
theorem b4W {fe : List (FE I)} {X : Cxt} {c : Cx} {σ : S} {E : TypeId} {ls : List (PV I)} {x : I E} {cs : List Value} (hx : ofT fe E ls = some x) (hl : RG X c σ ls cs) : Rp.cells σ x cs := by
 unfold ofT at hx
 split at hx
 ·rename_i e he
  split at hx
  ·rename_i e1
   subst e1
   obtain ⟨y, rest, h1, h2⟩ := e.fd.pa_ok _ _ _ _ hx
   obtain ⟨c1, c2, e2, h3, h4⟩ := h2 X c σ cs hl
   split at h1
   ·cases h1
    simp only [RG] at h4
    rw [e2, h4, List.append_nil]
    exact h3
   ·cases h1
  ·cases hx
 ·cases hx
theorem c4I {P : Program} {L : TabL I} (h : TabLOk P L) : TabOk P (c4U L) where
 sz := fun T k hk => h.sz.mem _ (a08 hk)
 one := fun T hk => by obtain ⟨a, ha⟩ := b1i hk; exact h.one.mem _ (a08 ha)
 off := fun T f o hk => by
  obtain ⟨l, hl, hk⟩ := bind_some hk
  obtain ⟨x, hx, hk⟩ := bind_some hk
  cases hk
  have := (b0Q.at (h.fld.mem _ (a08 hl)) hx).1
  rw [Nat.zero_add] at this
  exact this
 fty := fun T f o hk => by
  obtain ⟨l, hl, hk⟩ := bind_some hk
  obtain ⟨x, hx, hk⟩ := bind_some hk
  cases hk
  have := (b0Q.at (h.fld.mem _ (a08 hl)) hx).2
  rw [Nat.zero_add] at this
  exact this
 el := fun T E hk => by
  obtain ⟨h1, z, b, ⟨i, e1, e2, e3, e4⟩, _⟩ := h.el.mem _ (a08 hk)
  exact ⟨h1, by rw [e1]; simp only [Option.map_some]; rw [e3]⟩
 isStr := fun T hk => by obtain ⟨a, ha⟩ := b1i hk; exact h.str.mem _ (a08 ha)
 isBool := fun T hk => by obtain ⟨a, ha⟩ := b1i hk; exact h.bool.mem _ (a08 ha)
 ik := fun T k hk => h.ik.mem _ (a08 hk)
 lf := fun X c σ E x cs hx => by
  show RG X c σ (lfT L.fe E x) cs
  unfold lfT
  split
  ·rename_i e he
   split
   ·rename_i e1
    subst e1
    exact e.fd.lf_ok X c σ x cs hx
   ·exact RG.one hx
  ·exact RG.one hx
 of := fun _ _ _ _ _ _ _ hx hl => b4W hx hl
 size := fun T k hk => by
  obtain ⟨x, hx, hk⟩ := bind_some hk
  cases hk
  obtain ⟨z, ⟨i, e1, e2, e3, e4⟩, _⟩ := h.inf.mem _ (a08 hx)
  rw [e1, Option.map_some, e3]
 slice := fun T E b hT hb => by
  obtain ⟨x, hx, hk⟩ := bind_some hb
  cases hk
  obtain ⟨z, h1, _⟩ := h.inf.mem _ (a08 hx)
  obtain ⟨h2, z', b', h3, h4, h5⟩ := h.el.mem _ (a08 hT)
  obtain ⟨rfl, e1, e2⟩ := K8.inj h1 h3
  simp only at e1 e2 h1
  refine ⟨z, h2, ?_, h4, Rp.pos, ?_⟩
  ·rw [<- e1]; exact h1
  ·rw [e2]; exact h5
 zero := fun T ls hk => by
  obtain ⟨x, hx, hk⟩ := bind_some hk
  cases hk
  obtain ⟨z, h1, h2⟩ := h.inf.mem _ (a08 hx)
  exact ⟨z, _, _, _, h1, rfl, h2⟩
 flds := fun T pl ls hp hz => by
  obtain ⟨x, hx, hk⟩ := bind_some hz
  cases hk
  obtain ⟨z, ⟨i, e1, e2, e3, e4⟩, h2⟩ := h.inf.mem _ (a08 hx)
  rcases h.st.mem _ (a08 hp) with ⟨fs, h3, h4⟩ | ⟨m, e, ie, h3, h4, h5⟩
  ·exact ⟨z.cells.toList, .inl ⟨fs, i, z, h3, e1, e2, by simp, h4⟩, h2⟩
  ·exact ⟨z.cells.toList, .inr ⟨m, e, ie, i, z, h3, h4, e1, e2, by simp, h5⟩, h2⟩
 eqF := fun X c σ T ls ms r cs ds hk h1 h2 => by
  obtain ⟨f, hf, hk⟩ := bind_some hk
  exact h.eq.mem _ (a08 hf) X c σ ls ms r cs ds hk h1 h2
 arr := fun T E m k hk => h.arr.mem _ (a08 hk)
 fb := fun f hk => by obtain ⟨a, ha⟩ := b1i hk; exact h.fb.mem _ (a08 ha)
def c1S (P : Program) (k : Nat) (e : TypeId) (c : Nat) (xs ys : Array Value) (l : List Nat) (r : Bool) : Prop := ∀ d w, (Op.eqItems (d + k) e c xs ys l).run P w = .ok r w
omit [∀ E, Rp (I E)] in
theorem c3U {P : Program} {k : Nat} {e : TypeId} {c : Nat} {xs ys : Array Value} : c1S P k e c xs ys [] true := fun d w => by simp [Op.eqItems]
omit [∀ E, Rp (I E)] in
theorem b8J {P : Program} {k : Nat} {e : TypeId} {c i : Nat} {xs ys : Array Value} {is : List Nat} {a b : Value} {r1 r2 : Bool} (ha : ∀ w, (part e xs (i * c)).run P w = .ok a w) (hb : ∀ w, (part e ys (i * c)).run P w = .ok b w)
 (h1 : Sx.EqAt P k e a b r1) (h2 : c1S P k e c xs ys is r2) : c1S P k e c xs ys (i :: is) (r1 && r2) := fun d w => by
 simp only [Op.eqItems, Sem.run_bind, ha, hb, Result.andThen_ok, h1 d w]
 cases r1
 ·simp
 ·simpa using h2 d w
omit [∀ E, Rp (I E)] in
theorem c3M {P : Program} {k m b K : Nat} {T e : TypeId} {z : Value} {xs ys : Array Value} {r : Bool} (hu : P.underlying T = some (.array m e)) (hi : K8 P e z k b) (h : c1S P K e k xs ys (List.range m) r) : Sx.EqAt P (K + 1) T (.agg xs) (.agg ys) r := fun d w => by
 obtain ⟨i, h1, h2, h3, h4⟩ := hi
 have := run_equalIn_array (P := P) (w := w) (d + K) xs ys hu h1
 rw [<- Nat.add_assoc, this]
 have hc : P.cellsOf e = k := by simp [Program.cellsOf, h1, h3]
 rw [hc]
 exact h d w
def b9X (fe : List (FE I)) (T : TypeId) (g : I T -> I T -> Bool) : List (PV I) -> List (PV I) -> Option Bool := fun ls ms =>
 match ls, ms with
 | [.dat E x], [.dat E' y] => Option.bind (a8R T E x) fun x => Option.bind (a8R T E' y) fun y => some (g x y)
 | [.dat E x], ms => Option.bind (a8R T E x) fun x => Option.bind (ofT fe T ms) fun y => some (g x y)
 | ls, [.dat E' y] => Option.bind (ofT fe T ls) fun x => Option.bind (a8R T E' y) fun y => some (g x y)
 | ls, ms => Option.bind (ofT fe T ls) fun x => Option.bind (ofT fe T ms) fun y => some (g x y)
theorem b64 {X : Cxt} {c : Cx} {σ : S} {T E : TypeId} {x : I E} {y : I T} {cs : List Value} (h : a8R T E x = some y) (hl : RG X c σ [.dat E x] cs) : Rp.cells σ y cs := by
 obtain ⟨e, rfl⟩ := b2V h
 subst e
 simp only [RG] at hl
 obtain ⟨a, r, e, h1 | ⟨h0, _⟩, h2⟩ := hl
 ·subst h2
  rw [e, List.append_nil]
  exact h1
 ·cases h0
theorem c5m {fe : List (FE I)} {T : TypeId} {g : I T -> I T -> Bool} {X : Cxt} {c : Cx} {σ : S} {ls ms : List (PV I)} {r : Bool} {cs ds : List Value} (h : b9X fe T g ls ms = some r) (hl : RG X c σ ls cs) (hm : RG X c σ ms ds) :
 ∃ x y, Rp.cells σ x cs /\ Rp.cells σ y ds /\ g x y = r := by
 unfold b9X at h
 split at h
 ·obtain ⟨x, hx, h⟩ := bind_some h
  obtain ⟨y, hy, h⟩ := bind_some h
  exact ⟨x, y, b64 hx hl, b64 hy hm, Option.some.inj h⟩
 ·obtain ⟨x, hx, h⟩ := bind_some h
  obtain ⟨y, hy, h⟩ := bind_some h
  exact ⟨x, y, b64 hx hl, b4W hy hm, Option.some.inj h⟩
 ·obtain ⟨x, hx, h⟩ := bind_some h
  obtain ⟨y, hy, h⟩ := bind_some h
  exact ⟨x, y, b4W hx hl, b64 hy hm, Option.some.inj h⟩
 ·obtain ⟨x, hx, h⟩ := bind_some h
  obtain ⟨y, hy, h⟩ := bind_some h
  exact ⟨x, y, b4W hx hl, b4W hy hm, Option.some.inj h⟩
omit [∀ E, Rp (I E)] in
theorem J5 [∀ E, Rp (I E)] {P : Program} {r : Row I} (h : r.run = b7O r.ps fun _ => none) : y3 P r := by
 intro σ a vs pls res hA hnd happ
 rw [h] at happ
 have : ∀ (ps : List Pk) (R : Type) (a : a2q I ps), b1P ps (b7O ps fun _ => (none : Option R)) a = none := by
  intro ps R a
  induction ps with
  | nil => rfl
  | cons p r ih => exact ih a.2
 rw [this] at happ
 cases happ
def k8 (f : Func) : Code := match f.body with
 | some c => c
 | none => .skip
inductive BE where
 | slot (t : Nat)
 | fld (T : TypeId) (f : Nat) (e : BE)
 | ld (T : TypeId) (e : BE)
 | len (e : BE)
 | cst (n : Int)
def bev (tb : Tab I) (s : St I) : BE -> Option (PV I)
 | .slot t => s.F t
 | .fld T f e => Option.bind (bev tb s e) fun p => Option.bind (tb.off T f) fun d => match p with
   | .ptr l o => some (.ptr l (o + d))
   | .ep E x o => some (.ep E x (o + d))
   | _ => none
 | .ld T e => Option.bind (bev tb s e) fun p => match p with
   | .ptr l o => match s.O l with
     | some (some (.var _ ls _)) => a6f tb T ls o
     | _ => none
   | .ep E x o => a6f tb T [.dat E x] o
   | _ => none
 | .len e => Option.bind (bev tb s e) fun p => match p with
   | .sl _ xs _ => some (.int .i64 (xs.length : Int))
   | .nl _ => some (.int .i64 0)
   | .str t => some (.int .i64 (t.size : Int))
   | .vw l => match s.O l with
     | some (some (.row _ xs _)) => some (.int .i64 (xs.length : Int))
     | some (some (.ro _ xs)) => some (.int .i64 (xs.length : Int))
     | some (some (.bo _ xs)) => some (.int .i64 (xs.length : Int))
     | _ => none
   | .vs l _ lo => match s.O l with
     | some (some (.row _ xs _)) => some (.int .i64 ((xs.drop lo).length : Int))
     | _ => none
   | _ => none
 | .cst n => some (.int .i64 n)
def bnd (tb : Tab I) (e : BE) (k : Nat) (s : St I) : Option Nat := match bev tb s e with
 | some (.int _ n) => some (n.toNat + k)
 | _ => none
end
end Go.Qx
end
section
namespace Go.Sx
open Go Go.RowKit
structure Key where
 Kind : Int
 Text : ByteArray
mutual
inductive Val where
 | mk (Kind : Int) (Int_ : Int) (Text : ByteArray) (Kids : List Val) (Keys : List Key) (Entries : List Ent) (Labels : List ByteArray)
inductive Ent where
 | mk (Args : List Val) (Fails : Bool) (Result : Val)
end
namespace Val
def Kind : Val -> Int | mk a _ _ _ _ _ _ => a
def Int_ : Val -> Int | mk _ a _ _ _ _ _ => a
def Text : Val -> ByteArray | mk _ _ a _ _ _ _ => a
def Kids : Val -> List Val | mk _ _ _ a _ _ _ => a
def Keys : Val -> List Key | mk _ _ _ _ a _ _ => a
def Entries : Val -> List Ent | mk _ _ _ _ _ a _ => a
def Labels : Val -> List ByteArray | mk _ _ _ _ _ _ a => a
end Val
namespace Ent
def Args : Ent -> List Val | mk a _ _ => a
def Fails : Ent -> Bool | mk _ a _ => a
def Result : Ent -> Val | mk _ _ a => a
end Ent
instance rpKey : Rp Key where
 sz := 2
 pos := by decide
 agg := true
 cells := fun _ k cs => cs = [.int .i64 k.Kind, .string k.Text]
 len := fun h => by rw [h]; rfl
 one := fun h v hv => by rw [h] at hv; simp at hv; rcases hv with rfl | rfl <;> rfl
 mono := fun _ h => h
def SlC (σ : S) (len : Nat) (A : Option Addr) (c : Nat) (cs : List Value) : Prop := len <= c /\ c <= maxLen /\ (0 < len -> ∃ b o, A = some ⟨b, o, none⟩ /\ a2L σ b o cs)
mutual
def RV (σ : S) : Val -> List Value -> Prop
 | .mk k n t kids keys ents labs, cs => ∃ A1 c1 A2 c2 A3 c3 A4 c4 f1 f3,
    cs = [.int .i64 k, .int .i64 n, .string t, .slice A1 kids.length c1, .slice A2 keys.length c2, .slice A3 ents.length c3, .slice A4 labs.length c4] /\
    SlC σ kids.length A1 c1 f1 /\ RVs σ kids f1 /\ Sl σ keys A2 c2 /\ SlC σ ents.length A3 c3 f3 /\ REs σ ents f3 /\ Sl σ labs A4 c4
def RVs (σ : S) : List Val -> List Value -> Prop
 | [], cs => cs = []
 | x :: xs, cs => ∃ c r, cs = c ++ r /\ RV σ x c /\ RVs σ xs r
def RE (σ : S) : Ent -> List Value -> Prop
 | .mk args fails res, cs => ∃ A c f r, cs = .slice A args.length c :: .bool fails :: r /\ SlC σ args.length A c f /\ RVs σ args f /\ RV σ res r
def REs (σ : S) : List Ent -> List Value -> Prop
 | [], cs => cs = []
 | x :: xs, cs => ∃ c r, cs = c ++ r /\ RE σ x c /\ REs σ xs r
end
theorem RV.len {σ : S} : ∀ {v : Val} {cs : List Value}, RV σ v cs -> cs.length = 7
 | .mk .., cs, h => by simp only [RV] at h; obtain ⟨_, _, _, _, _, _, _, _, _, _, rfl, _⟩ := h; rfl
theorem RV.one {σ : S} : ∀ {v : Val} {cs : List Value}, RV σ v cs -> ∀ u ∈ cs, u.oneCell' = true
 | .mk .., cs, h => by
   simp only [RV] at h
   obtain ⟨_, _, _, _, _, _, _, _, _, _, rfl, _⟩ := h
   intro u hu
   simp at hu
   rcases hu with rfl | rfl | rfl | rfl | rfl | rfl | rfl <;> rfl
theorem RE.len {σ : S} : ∀ {v : Ent} {cs : List Value}, RE σ v cs -> cs.length = 9
 | .mk .., cs, h => by simp only [RE] at h; obtain ⟨_, _, _, r, rfl, _, _, h4⟩ := h; simp [h4.len]
theorem RE.one {σ : S} : ∀ {v : Ent} {cs : List Value}, RE σ v cs -> ∀ u ∈ cs, u.oneCell' = true
 | .mk .., cs, h => by
   simp only [RE] at h
   obtain ⟨_, _, _, r, rfl, _, _, h4⟩ := h
   intro u hu
   simp only [List.mem_cons] at hu
   rcases hu with rfl | rfl | hu
   ·rfl
   ·rfl
   ·exact h4.one u hu
theorem SlC.mono {σ τ : S} {len : Nat} {A : Option Addr} {c : Nat} {cs : List Value} (h : SlC σ len A c cs) (k : Wext σ τ) (hn : 0 < len -> cs ≠ []) : SlC τ len A c cs :=
 ⟨h.1, h.2.1, fun hl => by obtain ⟨b, o, e, hs⟩ := h.2.2 hl; exact ⟨b, o, e, hs.mono (hn hl) k⟩⟩
theorem RVs.ne {σ : S} : ∀ {xs : List Val} {cs : List Value}, RVs σ xs cs -> 0 < xs.length -> cs ≠ []
 | [], _, _, h => by simp at h
 | x :: xs, cs, h, _ => by
   simp only [RVs] at h
   obtain ⟨c, r, rfl, h1, _⟩ := h
   intro e
   have := h1.len
   rw [List.append_eq_nil_iff] at e
   rw [e.1] at this
   simp at this
theorem REs.ne {σ : S} : ∀ {xs : List Ent} {cs : List Value}, REs σ xs cs -> 0 < xs.length -> cs ≠ []
 | [], _, _, h => by simp at h
 | x :: xs, cs, h, _ => by
   simp only [REs] at h
   obtain ⟨c, r, rfl, h1, _⟩ := h
   intro e
   have := h1.len
   rw [List.append_eq_nil_iff] at e
   rw [e.1] at this
   simp at this
mutual
theorem RV.mono {σ τ : S} (k : Wext σ τ) : ∀ {v : Val} {cs : List Value}, RV σ v cs -> RV τ v cs
 | .mk .., cs, h => by
   simp only [RV] at h ⊢
   obtain ⟨A1, c1, A2, c2, A3, c3, A4, c4, f1, f3, e, h1, h2, h3, h4, h5, h6⟩ := h
   exact ⟨A1, c1, A2, c2, A3, c3, A4, c4, f1, f3, e, h1.mono k h2.ne, RVs.mono k h2, h3.mono k, h4.mono k h5.ne, REs.mono k h5, h6.mono k⟩
theorem RVs.mono {σ τ : S} (k : Wext σ τ) : ∀ {v : List Val} {cs : List Value}, RVs σ v cs -> RVs τ v cs
 | [], cs, h => by simp only [RVs] at h ⊢; exact h
 | x :: xs, cs, h => by
   simp only [RVs] at h ⊢
   obtain ⟨c, r, e, h1, h2⟩ := h
   exact ⟨c, r, e, RV.mono k h1, RVs.mono k h2⟩
theorem RE.mono {σ τ : S} (k : Wext σ τ) : ∀ {v : Ent} {cs : List Value}, RE σ v cs -> RE τ v cs
 | .mk .., cs, h => by
   simp only [RE] at h ⊢
   obtain ⟨A, c, f, r, e, h1, h2, h3⟩ := h
   exact ⟨A, c, f, r, e, h1.mono k h2.ne, RVs.mono k h2, RV.mono k h3⟩
theorem REs.mono {σ τ : S} (k : Wext σ τ) : ∀ {v : List Ent} {cs : List Value}, REs σ v cs -> REs τ v cs
 | [], cs, h => by simp only [REs] at h ⊢; exact h
 | x :: xs, cs, h => by
   simp only [REs] at h ⊢
   obtain ⟨c, r, e, h1, h2⟩ := h
   exact ⟨c, r, e, RE.mono k h1, REs.mono k h2⟩
end
instance rpVal : Rp Val where
 sz := 7
 pos := by decide
 agg := true
 cells := fun σ v cs => RV σ v cs
 len := RV.len
 one := RV.one
 mono := fun k h => RV.mono k h
instance rpEnt : Rp Ent where
 sz := 9
 pos := by decide
 agg := true
 cells := fun σ v cs => RE σ v cs
 len := RE.len
 one := RE.one
 mono := fun k h => RE.mono k h
theorem RVs.flat {σ : S} : ∀ {xs : List Val} {cs : List Value}, RVs σ xs cs ↔ W0 σ xs cs
 | [], cs => by simp only [RVs, W0]
 | x :: xs, cs => by
   simp only [RVs, W0]
   constructor
   ·rintro ⟨c, r, e, h1, h2⟩; exact ⟨c, r, e, h1, RVs.flat.1 h2⟩
   ·rintro ⟨c, r, e, h1, h2⟩; exact ⟨c, r, e, h1, RVs.flat.2 h2⟩
theorem REs.flat {σ : S} : ∀ {xs : List Ent} {cs : List Value}, REs σ xs cs ↔ W0 σ xs cs
 | [], cs => by simp only [REs, W0]
 | x :: xs, cs => by
   simp only [REs, W0]
   constructor
   ·rintro ⟨c, r, e, h1, h2⟩; exact ⟨c, r, e, h1, REs.flat.1 h2⟩
   ·rintro ⟨c, r, e, h1, h2⟩; exact ⟨c, r, e, h1, REs.flat.2 h2⟩
theorem SlC.sl {α : Type} [Rp α] {σ : S} {xs : List α} {A : Option Addr} {c : Nat} {cs : List Value} (h : SlC σ xs.length A c cs) (hf : W0 σ xs cs) : Sl σ xs A c :=
 ⟨h.1, h.2.1, cs, hf, fun hn => h.2.2 (List.length_pos_iff.2 hn)⟩
theorem SlC.of {α : Type} [Rp α] {σ : S} {xs : List α} {A : Option Addr} {c : Nat} (h : Sl σ xs A c) : ∃ cs, SlC σ xs.length A c cs /\ W0 σ xs cs := by
 obtain ⟨h1, h2, cs, h3, h4⟩ := h
 exact ⟨cs, ⟨h1, h2, fun hl => h4 (List.length_pos_iff.1 hl)⟩, h3⟩
theorem Val.cells_iff {σ : S} {v : Val} {cs : List Value} : Rp.cells σ v cs ↔ ∃ A1 c1 A2 c2 A3 c3 A4 c4,
 cs = [.int .i64 v.Kind, .int .i64 v.Int_, .string v.Text, .slice A1 v.Kids.length c1, .slice A2 v.Keys.length c2, .slice A3 v.Entries.length c3, .slice A4 v.Labels.length c4] /\
 Sl σ v.Kids A1 c1 /\ Sl σ v.Keys A2 c2 /\ Sl σ v.Entries A3 c3 /\ Sl σ v.Labels A4 c4 := by
 cases v with
 | mk k n t kids keys ents labs =>
   show RV σ _ cs ↔ _
   simp only [RV, Val.Kind, Val.Int_, Val.Text, Val.Kids, Val.Keys, Val.Entries, Val.Labels]
   constructor
   ·rintro ⟨A1, c1, A2, c2, A3, c3, A4, c4, f1, f3, e, h1, h2, h3, h4, h5, h6⟩
    exact ⟨A1, c1, A2, c2, A3, c3, A4, c4, e, h1.sl (RVs.flat.1 h2), h3, h4.sl (REs.flat.1 h5), h6⟩
   ·rintro ⟨A1, c1, A2, c2, A3, c3, A4, c4, e, h1, h3, h4, h6⟩
    obtain ⟨f1, k1, k2⟩ := SlC.of h1
    obtain ⟨f3, k4, k5⟩ := SlC.of h4
    exact ⟨A1, c1, A2, c2, A3, c3, A4, c4, f1, f3, e, k1, RVs.flat.2 k2, h3, k4, REs.flat.2 k5, h6⟩
theorem Ent.cells_iff {σ : S} {v : Ent} {cs : List Value} : Rp.cells σ v cs ↔ ∃ A c A1 c1 A2 c2 A3 c3 A4 c4,
 cs = [.slice A v.Args.length c, .bool v.Fails, .int .i64 v.Result.Kind, .int .i64 v.Result.Int_, .string v.Result.Text, .slice A1 v.Result.Kids.length c1, .slice A2 v.Result.Keys.length c2, .slice A3 v.Result.Entries.length c3, .slice A4 v.Result.Labels.length c4] /\
 Sl σ v.Args A c /\ Sl σ v.Result.Kids A1 c1 /\ Sl σ v.Result.Keys A2 c2 /\ Sl σ v.Result.Entries A3 c3 /\ Sl σ v.Result.Labels A4 c4 := by
 cases v with
 | mk args fails res =>
   show RE σ _ cs ↔ _
   simp only [RE, Ent.Args, Ent.Fails, Ent.Result]
   constructor
   ·rintro ⟨A, c, f, r, rfl, h1, h2, h3⟩
    obtain ⟨A1, c1, A2, c2, A3, c3, A4, c4, rfl, k1, k2, k3, k4⟩ := Val.cells_iff.1 h3
    exact ⟨A, c, A1, c1, A2, c2, A3, c3, A4, c4, rfl, h1.sl (RVs.flat.1 h2), k1, k2, k3, k4⟩
   ·rintro ⟨A, c, A1, c1, A2, c2, A3, c3, A4, c4, rfl, h1, k1, k2, k3, k4⟩
    obtain ⟨f, j1, j2⟩ := SlC.of h1
    exact ⟨A, c, f, _, rfl, j1, RVs.flat.2 j2, Val.cells_iff.2 ⟨A1, c1, A2, c2, A3, c3, A4, c4, rfl, k1, k2, k3, k4⟩⟩
theorem Key.cells_iff {σ : S} {v : Key} {cs : List Value} : Rp.cells σ v cs ↔ cs = [.int .i64 v.Kind, .string v.Text] := Iff.rfl
end Go.Sx
end
section
namespace Go.Qx
open Go Go.RowKit Go.Sx
end Go.Qx
namespace Go.Sx
open Go Go.RowKit Go.Qx
abbrev Key.to (v : Key) : Int × ByteArray := (v.Kind, v.Text)
abbrev Key.of (x : Int × ByteArray) : Key := ⟨x.1, x.2⟩
theorem Key.cells_to (σ : S) (v : Key) (cs : List Value) : rpKey.cells σ v cs ↔ (Z1 (rpK .i64) rpStr).cells σ v.to cs := by
 constructor
 ·intro h
  have h : cs = [.int .i64 v.Kind, .string v.Text] := h
  exact ⟨[_], [_], h, rfl, rfl⟩
 ·rintro ⟨c1, c2, e, rfl, rfl⟩
  exact e
abbrev Val.to (v : Val) : Int × (Int × (ByteArray × (List Val × (List Key × (List Ent × List ByteArray))))) := (v.Kind, v.Int_, v.Text, v.Kids, v.Keys, v.Entries, v.Labels)
abbrev Val.of (x : Int × (Int × (ByteArray × (List Val × (List Key × (List Ent × List ByteArray)))))) : Val := .mk x.1 x.2.1 x.2.2.1 x.2.2.2.1 x.2.2.2.2.1 x.2.2.2.2.2.1 x.2.2.2.2.2.2
theorem Val.cells_to (σ : S) (v : Val) (cs : List Value) : rpVal.cells σ v cs ↔
 (Z1 (rpK .i64) (Z1 (rpK .i64) (Z1 rpStr (Z1 (@rpList _ rpVal) (Z1 (@rpList _ rpKey) (Z1 (@rpList _ rpEnt) (@rpList _ rpStr))))))).cells σ v.to cs := by
 refine Val.cells_iff.trans ?_
 constructor
 ·rintro ⟨A1, c1, A2, c2, A3, c3, A4, c4, e, h1, h2, h3, h4⟩
  exact ⟨[_], _, e, rfl, [_], _, rfl, rfl, [_], _, rfl, rfl, [_], _, rfl, ⟨A1, c1, rfl, h1⟩, [_], _, rfl, ⟨A2, c2, rfl, h2⟩, [_], _, rfl, ⟨A3, c3, rfl, h3⟩, A4, c4, rfl, h4⟩
 ·rintro ⟨_, _, rfl, rfl, _, _, rfl, rfl, _, _, rfl, rfl, _, _, rfl, ⟨A1, c1, rfl, h1⟩, _, _, rfl, ⟨A2, c2, rfl, h2⟩, _, _, rfl, ⟨A3, c3, rfl, h3⟩, A4, c4, rfl, h4⟩
  exact ⟨A1, c1, A2, c2, A3, c3, A4, c4, rfl, h1, h2, h3, h4⟩
abbrev Ent.to (v : Ent) : List Val × (Bool × Val) := (v.Args, v.Fails, v.Result)
abbrev Ent.of (x : List Val × (Bool × Val)) : Ent := .mk x.1 x.2.1 x.2.2
theorem Ent.cells_to (σ : S) (v : Ent) (cs : List Value) : rpEnt.cells σ v cs ↔ (Z1 (@rpList _ rpVal) (Z1 rpBool rpVal)).cells σ v.to cs := by
 cases v with
 | mk args fails res =>
   constructor
   ·intro h
    have h : RE σ (.mk args fails res) cs := h
    simp only [RE] at h
    obtain ⟨A, c, f, r, rfl, h1, h2, h3⟩ := h
    exact ⟨[_], _, rfl, ⟨A, c, rfl, h1.sl (RVs.flat.1 h2)⟩, [_], _, rfl, rfl, h3⟩
   ·rintro ⟨_, _, rfl, ⟨A, c, rfl, h1⟩, _, r, rfl, rfl, h2⟩
    show RE σ (.mk args fails res) _
    simp only [RE]
    obtain ⟨f, j1, j2⟩ := SlC.of h1
    exact ⟨A, c, f, r, rfl, j1, RVs.flat.2 j2, h2⟩
end Go.Sx
end
section
namespace Go.Qx
open Go Go.RowKit Go.Sx
section
variable {I : TypeId -> Type} [∀ E, Rp (I E)] {P : Program}
def b98 (a b : ByteArray) : Option Int := some (b5d a b)
theorem c54 {f : FuncId} {fn : Func} (hf : P.funcs[f]? = some fn) (hname : (fn.name == "runtime.NumGoroutine") = false) (hb : fn.body.isNone = true) (hn : Extern.findNext fn = none) (he : Extern.find fn = some Extern.BytealgCompare.compare) :
 y3 P (⟨f, [.d .str, .d .str], [.k (.d (.int .i64))], b98⟩ : Row I) := by
 intro σ a vs pls res hA _ happ
 obtain ⟨v, _, p1, _, rfl, rfl, ⟨h1, rfl⟩, v2, _, p2, _, rfl, rfl, ⟨h2, rfl⟩, rfl, rfl⟩ := hA
 have h1 : v = .string a.1 := h1
 have h2 : v2 = .string a.2.1 := h2
 have hr : b98 a.1 a.2.1 = some res := happ
 subst h1
 subst h2
 cases hr
 refine .inr ⟨_, σ, c7m hf hname hb hn he a.1 a.2.1 σ.w, Stp.refl _ σ, [.int .i64 (b5d a.1 a.2.1)], [], [], ⟨rfl, rfl, ⟨_, rfl, rfl, rfl⟩, rfl, by simp [ows], fun g hg => by simp [ows] at hg⟩⟩
def a2m {α : Type} (b : Nat) (xs : List α) : Option (List α) := Option.bind (Z5 (0 + xs.length) b) fun _ => some xs
def noH : Hints I := ⟨fun _ => [], fun _ => [], fun _ => [], fun _ => none, fun _ => none, fun _ => none, fun _ => none⟩
def noD : a0T I := fun _ _ _ _ _ _ => none
theorem c6I : DispOk P (noD : a0T I) := ⟨fun _ _ _ _ _ _ => rfl, fun _ _ _ _ _ h => by cases h⟩
def b9r (E : TypeId) (xs : List (I E)) : St I := ⟨8, fun i => bif Nat.beq i 0 then some (.sl E xs false) else none, fun _ => none, 0⟩
theorem b9J {tb : Tab I} (ht : TabOk P tb) (hmx : P.follows .mixedOrders = true) {f : FuncId} {fn : Func} {T E : TypeId} {b : Nat} {i0 i1 i2 : Nat} {p0 p1 p2 p3 : String} {a2 : Array Edge} {t0 t1 t2 t3 t4 : TypeId} {cd3 : Code}
 (hf : P.funcs[f]? = some fn) (hname : (fn.name == "runtime.NumGoroutine") = false) (hn : fn.ntmps = 8) (hres : fn.results.toList = [.tmp 2]) (hT : P.underlying T = some (.slice E))
 (hb : fn.body = some (.seq (.region i0 #[⟨some 2, .assign (.const (.slice none 0 0)), t0, p0, #[], none⟩] false) (.seq (.seq (.region i1 #[⟨some 3, .move (.tmp 0), t1, p1, #[], none⟩, ⟨some 4, .binOp .eql T (.tmp 3) (.const (.slice none 0 0)) t2, t3, p2, a2, none⟩] false)
   (.cond (.tmp 4) (.seq (.region i2 #[⟨some 2, .assign (.const (.slice none 0 0)), t4, p3, #[], none⟩] false) .ret) .skip)) cd3)))
 (hcode : a3j (noH : Hints I) cd3 1 = true) (hex : ∀ xs : List (I E), a9A tb noD noH cd3 1 (List (I E)) (b9r E xs) (fin tb [.d (.sl E)] [.k (.row E false)] [.tmp 2]) = a2m b xs) :
 y3 P (⟨f, [.d (.sl E)], [.k (.row E false)], a2m b⟩ : Row I) := by
 refine c2x ht 8 hf hb hname hn hres rfl fun X c σ F Q a res hX hrel happ hk => ?_
 subst hX
 have happ : a2m b a.1 = some res := happ
 have h0 := hrel.frame 0 (.sl E a.1 false) rfl
 simp only [RV] at h0
 obtain ⟨A, k, e0, hs, _⟩ := h0
 refine wp_seq (wp_region_lit ?_)
 refine b6A (.slice none 0 0) rfl rfl ?_
 refine wpList_nil (b67 (wp_seq (wp_seq (wp_region_lit ?_))))
 refine c3t (.slice A (a.1 : List (I E)).length k) e0 rfl ?_
 refine c5a (.slice A (a.1 : List (I E)).length k) (.slice none 0 0) (.bool A.isNone) rfl rfl rfl rfl (c7n hT) ?_
 refine wpList_nil (b67 ?_)
 have hgen : ∀ (G : Fr), G 0 = F 0 -> Rel X c σ (b9r E a.1) 8 G := fun G hG =>
  ⟨rfl, (fun i p hp => by
   have : (bif Nat.beq i 0 then some (PV.sl E a.1 false) else none) = some p := hp
   obtain ⟨hi, hp⟩ := k7 this
   cases hp
   have := Nat.eq_of_beq_eq_true hi
   subst this
   rw [hG]
   exact hrel.frame 0 _ rfl), (fun l o ho => by cases ho), (fun _ _ _ _ _ ⟨_, h⟩ => by cases h), (fun _ _ _ ⟨_, h⟩ => by cases h), fun l _ => hrel.nom l rfl, hrel.base, noN.nests fun _ _ _ _ _ _ h => by cases h⟩
 refine (Bool.eq_false_or_eq_true A.isNone).elim (fun hn4 => ?_) (fun hn4 => ?_)
 ·have e : a.1 = [] := hs.nil_of hn4
  have hr : res = [] := by
   rw [e] at happ
   simp [a2m, Z5] at happ
   exact (Option.some.inj happ).symm
  refine c51 rfl hn4 rfl ?_
  refine wp_seq (wp_region_lit ?_)
  refine b6A (.slice none 0 0) rfl rfl ?_
  refine wpList_nil (b67 (wp_ret (c5f ?_)))
  subst hr
  refine hk .ret (Qx.put (b9r E a.1) (some 2) (.nl E)) c σ _ ?_ (Cx.le_refl c) ((hgen (V4 (V4 (V4 F (some 2) (.slice none 0 0)) (some 3) (.slice A (a.1 : List (I E)).length k)) (some 4) (.bool A.isNone)) rfl).put (some 2) _ (.slice none 0 0) (by simp only [RV]; exact ⟨none, rfl⟩)) (Stp.refl _ σ)
  rfl
 ·refine c5E rfl hn4 rfl ?_
  refine wp_skip (b67 ?_)
  exact a4z ht c6I hmx cd3 1 hcode _ _ _ res X c σ _ Q rfl ((hex a.1).trans happ) (hgen _ rfl) fun e s' c' τ F' g1 g2 g3 g4 _ => hk e s' c' τ F' g1 g2 g3 g4
end
end Go.Qx
end
section
namespace Go.Qx
open Go Go.RowKit Go.Sx
section
variable {α : Type}
variable {lt : α -> α -> Bool} {xs : List α}
structure Tot (lt : α -> α -> Bool) (xs : List α) : Prop where
 irr : ∀ x ∈ xs, lt x x = false
 trans : ∀ x ∈ xs, ∀ y ∈ xs, ∀ z ∈ xs, lt x y = true -> lt y z = true -> lt x z = true
 tot : ∀ x ∈ xs, ∀ y ∈ xs, lt x y = false -> lt y x = false -> x = y
theorem Tot.sub {ys : List α} (h : Tot lt xs) (hs : ∀ x ∈ ys, x ∈ xs) : Tot lt ys :=
 ⟨fun x hx => h.irr x (hs x hx), fun x hx y hy z hz => h.trans x (hs x hx) y (hs y hy) z (hs z hz), fun x hx y hy => h.tot x (hs x hx) y (hs y hy)⟩
end
section
variable {α : Type} [Rp α] {σ τ : S}
def a67 (w : World) (g m : Nat) (F : Array Value) (os : Array Obj) : World := Sort.grow (Sort.putRow id (Sort.ahead w m) g 0 F) os
theorem c0m {w : World} {g m : Nat} {F : Array Value} {os : Array Obj} {b : Nat} (hb : b < w.heap.size) (hne : b ≠ g) : (a67 w g m F os).heap[b]? = w.heap[b]? := by
 simp only [a67, Sort.grow, Sort.putRow, Sort.mapBlock, Sort.ahead]
 rw [Array.getElem?_append_left (by simpa using hb), Array.getElem?_modify, if_neg (fun e => hne e.symm)]
theorem c3P {w : World} {g m : Nat} {F : Array Value} {os : Array Obj} {cur : Array Value} {E : TypeId} (h : w.heap[g]? = some (.cells cur E (0, 0))) (hF : F.size <= cur.size) :
 (a67 w g m F os).heap[g]? = some (.cells (F.toList ++ cur.toList.drop F.size).toArray E (0, 0)) := by
 have hb : g < w.heap.size := a1n h
 simp only [a67, Sort.grow, Sort.putRow, Sort.mapBlock, Sort.ahead]
 rw [Array.getElem?_append_left (by simpa using hb), Array.getElem?_modify, if_pos rfl, h]
 simp only [Option.map_some, Sort.onCells, Option.some.injEq, Obj.cells.injEq, and_self, and_true]
 apply Array.ext_getElem?
 intro i
 simp only [Sort.putCells, Array.getElem?_mapIdx, List.getElem?_toArray, id]
 by_cases hi : i < F.size
 ·rw [List.getElem?_append_left (by simpa using hi), Array.getElem?_toList, Array.getElem?_eq_getElem hi, Array.getElem?_eq_getElem (by omega : i < cur.size)]
  simp only [Option.map_some, Nat.zero_le, Nat.zero_add, hi, and_self, if_true, Nat.sub_zero]
  rw [getElem!_pos F i hi]
 ·rw [List.getElem?_append_right (by simpa using Nat.le_of_not_lt hi), List.getElem?_drop]
  rw [Array.length_toList, Nat.add_sub_cancel' (Nat.le_of_not_lt hi), Array.getElem?_toList]
  cases hc : cur[i]? with
  | none => rfl
  | some v => simp [hi]
def b9Y (σ : S) (W : World) : S := ⟨W, fun b => if b < σ.N then σ.L b else (0, b)⟩
theorem c2r (w : World) (g m : Nat) (F : Array Value) (os : Array Obj) : (a67 w g m F os).heap.size = w.heap.size + os.size := by
 simp [a67, Sort.grow, Sort.putRow, Sort.mapBlock, Sort.ahead]
theorem b9U {g m k : Nat} {E : TypeId} {xs : List α} {A : Option Addr} {F : Array Value} {os : Array Obj} (hown : a0M (some g) false E σ xs A k) : Stp (fun b => b = g) σ (b9Y σ (a67 σ.w g m F os)) := by
 obtain ⟨cur, cs, rfl, hh, h1, h2, h3, h4, h5, h6⟩ := hown
 have hL : ∀ b, b < σ.N -> (b9Y σ (a67 σ.w g m F os)).L b = σ.L b := fun b hb => by simp [b9Y, hb]
 refine ⟨⟨?_, fun b hb => by rw [hL b hb]; exact Nat.le_refl _, fun b o v ho hc => ?_, ?_⟩, rfl, rfl, rfl, fun b hb hn => ⟨c0m hb hn, by rw [hL b hb]⟩⟩
 ·show σ.w.heap.size <= (a67 σ.w g m F os).heap.size
  rw [c2r]; omega
 ·have hlt := a4m hc
  by_cases e : b = g
  ·subst e
   rw [show (σ.L b).1 = 0 from h6] at ho
   omega
  ·exact (a2H (c0m hlt e) o).trans hc
 ·show σ.w.drawn <= (a67 σ.w g m F os).drawn
  simp [a67, Sort.grow, Sort.putRow, Sort.mapBlock, Sort.ahead]
theorem c4m {g m k : Nat} {E : TypeId} {xs ys : List α} {A : Option Addr} {F : Array Value} {os : Array Obj} (hown : a0M (some g) false E σ xs A k) (hF : W0 σ ys F.toList) (hl : ys.length = xs.length) :
 a0M (some g) false E (b9Y σ (a67 σ.w g m F os)) ys A k := by
 have hst := b9U (m := m) (F := F) (os := os) hown
 obtain ⟨cur, cs, rfl, hh, h1, h2, h3, h4, h5, h6⟩ := hown
 have hFs : F.size = xs.length * Rp.sz α := by rw [<- Array.length_toList, hF.len, hl]
 have hle : F.size <= cur.size := by rw [hFs, h3]; exact Nat.mul_le_mul_right _ h1
 refine ⟨(F.toList ++ cur.toList.drop F.size).toArray, F.toList, rfl, c3P hh hle, by rw [hl]; exact h1, h2, ?_, hF.mono hst.wext, ?_, ?_⟩
 ·simp; omega
 ·rw [hl, <- hFs, <- Array.length_toList]
  exact List.take_left
 ·show (if g < σ.N then σ.L g else (0, g)).1 = _
  rw [if_pos (a1n hh)]
  exact h6
theorem c2k {β : Type} [Inhabited β] (enc : β -> Value) (w : World) (g : Nat) (dk : Array β) : Sort.putRow enc w g 0 dk = Sort.putRow id w g 0 (dk.map enc) := by
 unfold Sort.putRow
 congr 1
 funext c
 unfold Sort.putCells
 apply Array.ext_getElem?
 intro i
 simp only [Array.getElem?_mapIdx, Array.size_map]
 cases hc : c[i]? with
 | none => rfl
 | some v =>
   simp only [Option.map_some, Option.some.injEq]
   split
   ·rename_i hi
    have hi' : i - 0 < dk.size := by omega
    rw [getElem!_pos dk (i - 0) hi', id, getElem!_pos (dk.map enc) (i - 0) (by simpa using hi'), Array.getElem_map]
   ·rfl
end
section
variable {I : TypeId -> Type} [∀ E, Rp (I E)] {P : Program}
def b0z {α : Type} (toI : α -> Int) (xs : List α) : Option (Unit × List α) := bif decide (xs.length < 4611686018427387904) then some ((), xs.mergeSort fun x y => decide (toI x <= toI y)) else none
def b8l (xs : List Int) : Option (Unit × List Int) := b0z (fun x => x) xs
open Go.Proofs in
theorem c26 {ρ : Go.Shelf.Ren} (L : Go.Proofs.Lays.n189 P ρ) (f : FuncId) (hf : ρ.f 189 = f) {E : TypeId} (toI : I E -> Int) (hI : ∀ {σ : S} {x : I E} {cs : List Value}, Rp.cells σ x cs ↔ cs = [.int .i64 (toI x)]) (hb : a8J P f) :
 c1B P (⟨f, E, [], [], fun xs => b0z toI xs⟩ : Rio I) := by
 subst hf
 intro σ xs a vs pls res ys hA hnd happ
 obtain ⟨v1, vs1, p1, q1, e1, e2, ⟨A, k, ow, e3, hown, e4⟩, e9, e10⟩ := hA
 have happ : b0z toI xs = some (res, ys) := happ
 unfold b0z at happ
 obtain ⟨hlen, happ⟩ := k7 happ
 have hlen : xs.length < 4611686018427387904 := by simpa using hlen
 have e9 : vs1 = [] := e9
 have e10 : q1 = [] := e10
 have e3 : v1 = .slice A xs.length k := e3
 have e4 : p1 = [⟨A, k, xs.length, ow⟩] := e4
 subst e9; subst e10; subst e4; subst e3; subst e1
 rw [List.append_nil] at e2
 subst e2
 cases happ
 have hpost : ∀ {τ : S}, Post (I := I) σ τ [.row E false] [] [.slice A xs.length k] () (ows [(⟨A, k, xs.length, ow⟩ : Pl)]) (.tuple #[]) [] [] [] := ⟨rfl, rfl, ⟨rfl, rfl⟩, rfl, by simp [ows], fun g hg => by simp [ows] at hg⟩
 refine .inl ⟨hb, ?_⟩
 have hown : a0M ow false E σ xs A k := hown
 cases hx : xs with
 | nil =>
   subst hx
   refine (Any.slices_Sort_int_none L A k σ.w).mono fun e w' ⟨he, hw⟩ => ?_
   exact ⟨_, σ, he, hw.symm, Stp.refl _ _, [], [], [], hpost, A, k, ow, rfl, by simp, by simpa using hown, fun g _ => by simp [ows]⟩
 | cons x0 r0 =>
   rw [<- hx]
   cases ow with
   | none =>
     rcases hown with ⟨e, _⟩ | ⟨e, _⟩
     ·rw [hx] at e; cases e
     ·cases e
   | some gb =>
     have hown0 := hown
     obtain ⟨cur, cs, rfl, hh, h1, h2, h3, h4, h5, h6⟩ := hown
     have hsz1 : Rp.sz (I E) = 1 := by
      have := Rp.len (hI (σ := σ) (x := x0).2 rfl)
      simpa using this.symm
     have hcsU : ∀ {l : List (I E)} {ds : List Value}, W0 σ l ds -> ds = l.map fun x => Value.int .i64 (toI x) := by
      intro l
      induction l with
      | nil => intro ds h; exact h
      | cons x l ih =>
        intro ds ⟨c, r, e, hc, hr⟩
        rw [e, hI.1 hc, ih hr]; rfl
     have hflat1 : ∀ {υ : S} (l : List (I E)), W0 υ l (l.map fun x => Value.int .i64 (toI x)) := by
      intro υ l
      induction l with
      | nil => rfl
      | cons x l ih => exact ⟨[_], _, rfl, hI.2 rfl, ih⟩
     let toL : I E -> Int := toI
     have hholds : Sort.Holds (Value.int .i64) σ.w gb 0 (xs.map toL).toArray := by
      intro j hj
      have hj' : j < xs.length := by simpa using hj
      refine ⟨?_, by simp [World.frozen?, hh]⟩
      have e1 : σ.w.cell? ⟨gb, 0 + j, none⟩ = cur[j]? := by simp [World.cell?, hh]
      have e2 : cur[j]? = cs[j]? := by rw [<- h5, hsz1, Nat.mul_one, List.getElem?_take_of_lt hj', Array.getElem?_toList]
      rw [e1, e2, hcsU h4, List.getElem?_map, List.getElem?_eq_getElem hj', getElem!_pos _ j (by simpa using hj')]
      simp [toL]
     have main := Any.slices_Sort_int L gb 0 k (xs.map toL) σ.w hholds (a1n hh) (by simpa using hlen)
     rw [List.length_map] at main
     refine Calls.mono main fun e w' ⟨he, m, os, hw⟩ => ?_
     have hmap : ((xs.mergeSort fun x y => decide (toL x <= toL y)).map toL) = (xs.map toL).mergeSort fun x y => decide (x <= y) := List.map_mergeSort fun a _ b _ => rfl
     let ys := xs.mergeSort fun x y => decide (toL x <= toL y)
     have hput : ∀ (w : World), Sort.putRow (Value.int .i64) w gb 0 ((xs.map toL).mergeSort fun x y => decide (x <= y)).toArray = Sort.putRow id w gb 0 (ys.map fun x => Value.int .i64 (toI x)).toArray := fun w => by
      rw [c2k, <- hmap]
      congr 1
      simp [ys, toL]
     have hst := b9U (m := m) (F := (ys.map fun x => Value.int .i64 (toI x)).toArray) (os := os) hown0
     refine ⟨_, b9Y σ (a67 σ.w gb m (ys.map fun x => Value.int .i64 (toI x)).toArray os), he, ?_, hst.mono fun b _ e => by rw [e]; simp [ows], [], [], [], hpost, _, k, some gb, rfl, by simp, ?_, fun g _ => by simp [ows]⟩
     ·rw [hw]
      show a67 σ.w gb m (ys.map fun x => Value.int .i64 (toI x)).toArray os = _
      unfold a67
      rw [hput]
     ·exact c4m hown0 (hflat1 ys) (by simp [ys])
end
end Go.Qx
end
section
namespace Go.Qx
open Go Go.RowKit Go.Sx
set_option maxRecDepth 100000
structure Api_Field where
 Key_ : Key
 Node : Int
 Optional : Bool
structure Api_TypeNode where
 Kind : Int
 Lo : Int
 Hi : Int
 Text : ByteArray
 Kids : List Int
 Fields : List Api_Field
 Rest : Int × Int
structure Api_Type where
 Nodes : List Api_TypeNode
 Root : Int
structure Api_Goal where
 Pos : List Int
 Neg : List Int
 Lists : Bool
structure Api_EntryForm where
 Args : List Api_Goal
 Fails : Bool
 Result : Api_Goal
structure Semtypebase_Source where
 L : List Int
 At : Int
structure Value_used where
 number : Bool
 text_ : Bool
 kids : Bool
 keys : Bool
 entries : Bool
def b0J (x y : Int × Int) : Bool := ((x.1 == y.1) && ((x.2 == y.2) && true))
def a7b (x y : Key) : Bool := ((x.Kind == y.Kind) && ((V3 x.Text y.Text) && true))
def a1q (l : List (List Int)) (x1 : Int) : Option (Fl Int (Sum Unit Bool)) :=
 bif decide (x1 < (l.length : Int))
 then (Option.bind (idx l x1) fun e2 =>
 bif decide (80 < (e2.length : Int))
 then (some (.done (.inr false)))
 else (some (.next (wr .i64 (x1 + 1)))))
 else (some (.done (.inl ())))
def a3Z (l : List (List Int)) : Option Bool :=
 Option.bind (j5 (a1q l) ((l.length : Int).toNat + 1) 0) fun b3 =>
 w5 (fun _ =>
 some true) (fun y5 =>
 some y5) b3
def W4 : Option Val :=
 some (Val.mk 5 0 (⟨#[]⟩ : ByteArray) ([] : List Val) ([] : List Key) ([] : List Ent) ([] : List ByteArray))
def a3N (d : Api_TypeNode) : Option Bool :=
 Option.bind (bif d.Kind == 3
 then (some (true, false, false, false))
 else (Option.bind (bif d.Kind == 4
 then (some (d.Kind == 4))
 else (bif d.Kind == 6
 then (some (d.Kind == 6))
 else (some (d.Kind == 19)))) fun b1 =>
 bif b1
 then (some (false, true, false, false))
 else (Option.bind (bif d.Kind == 10
 then (some (d.Kind == 10))
 else (bif d.Kind == 12
 then (some (d.Kind == 12))
 else (bif d.Kind == 14
 then (some (d.Kind == 14))
 else (bif d.Kind == 16
 then (some (d.Kind == 16))
 else (bif d.Kind == 17
 then (some (d.Kind == 17))
 else (some (d.Kind == 18))))))) fun b2 =>
 bif b2
 then (some (false, false, true, false))
 else (bif d.Kind == 13
 then (some (false, false, false, true))
 else (some (false, false, false, false)))))) fun b3 =>
 Option.bind (bif b3.1
 then (some true)
 else (Option.bind (bif d.Lo == 0
 then (some (d.Hi == 0))
 else (some false)) fun q4 =>
 some q4)) fun q5 =>
 Option.bind (bif q5
 then (Option.bind (bif b3.2.1
 then (some true)
 else (some (V3 d.Text (⟨#[]⟩ : ByteArray)))) fun q6 =>
 some q6)
 else (some false)) fun q7 =>
 Option.bind (bif q7
 then (Option.bind (bif b3.2.2.1
 then (some true)
 else (some ((d.Kids.length : Int) == 0))) fun q8 =>
 some q8)
 else (some false)) fun q9 =>
 Option.bind (bif q9
 then (Option.bind (bif b3.2.2.2
 then (some true)
 else (Option.bind (bif (d.Fields.length : Int) == 0
 then (some (b0J d.Rest (0, 0)))
 else (some false)) fun q10 =>
 some q10)) fun q11 =>
 some q11)
 else (some false)) fun q12 =>
 some q12
def a7T (s : ByteArray) (other : Int -> Option Bool) (x5 : Int) : Option (Fl Int (Sum Unit Bool)) :=
 bif decide (x5 < (s.size : Int))
 then (Option.bind (a4P s x5) fun e6 =>
 Option.bind (other (e6.toNat : Int)) fun r7 =>
 bif !r7
 then (some (.done (.inr false)))
 else (some (.next (wr .i64 (x5 + 1)))))
 else (some (.done (.inl ())))
def a5Q (s : ByteArray) (first : Int -> Option Bool) (other : Int -> Option Bool) : Option Bool :=
 Option.bind (bif decide ((s.size : Int) < 1)
 then (some true)
 else (some (decide (16 < (s.size : Int))))) fun q1 =>
 Option.bind (bif q1
 then (some true)
 else (Option.bind (a4P s 0) fun e2 =>
 Option.bind (first (e2.toNat : Int)) fun r3 =>
 some (!r3))) fun q4 =>
 bif q4
 then (some false)
 else (Option.bind (j5 (a7T s other) ((s.size : Int).toNat + 1) 1) fun b8 =>
 w5 (fun _ =>
 some true) (fun y10 =>
 some y10) b8)
def a3K (c : Int) : Option Bool :=
 Option.bind (bif decide (97 <= c)
 then (some (decide (c <= 122)))
 else (some false)) fun q1 =>
 some q1
def a5k (c : Int) : Option Bool :=
 Option.bind (bif decide (48 <= c)
 then (some (decide (c <= 57)))
 else (some false)) fun q1 =>
 some q1
def a8w (c : Int) : Option Bool :=
 Option.bind (a3K c) fun r1 =>
 Option.bind (bif r1
 then (some true)
 else (Option.bind (a5k c) fun r2 =>
 some r2)) fun q3 =>
 Option.bind (bif q3
 then (some true)
 else (some (c == 95))) fun q4 =>
 some q4
def a4B (s : ByteArray) : Option Bool :=
 Option.bind (a5Q s (fun z1 =>
 Option.bind (a3K z1) fun r2 =>
 some r2) (fun z3 =>
 Option.bind (a8w z3) fun r4 =>
 some r4)) fun r5 =>
 some r5
def a5e (c : Int) : Option Bool :=
 Option.bind (bif decide (65 <= c)
 then (some (decide (c <= 90)))
 else (some false)) fun q1 =>
 some q1
def a5T (c : Int) : Option Bool :=
 Option.bind (a3K c) fun r1 =>
 Option.bind (bif r1
 then (some true)
 else (Option.bind (a5e c) fun r2 =>
 some r2)) fun q3 =>
 Option.bind (bif q3
 then (some true)
 else (Option.bind (a5k c) fun r4 =>
 some r4)) fun q5 =>
 Option.bind (bif q5
 then (some true)
 else (some (c == 95))) fun q6 =>
 some q6
def a3m (s : ByteArray) : Option Bool :=
 Option.bind (a5Q s (fun z1 =>
 Option.bind (a5e z1) fun r2 =>
 some r2) (fun z3 =>
 Option.bind (a5T z3) fun r4 =>
 some r4)) fun r5 =>
 some r5
def a4j (k : Key) : Option Bool :=
 bif k.Kind == 0
 then (Option.bind (a4B k.Text) fun r1 =>
 some r1)
 else (bif k.Kind == 1
 then (some (decide ((k.Text.size : Int) <= 64)))
 else (some false))
def a6V (x : Int) : Option Bool :=
 some (x != x)
def a0K (x : Int) (y : Int) : Option Int :=
 Option.bind (a6V x) fun r1 =>
 Option.bind (a6V y) fun r2 =>
 bif r1
 then (bif r2
 then (some 0)
 else (some (-1)))
 else (bif r2
 then (some 1)
 else (bif decide (x < y)
 then (some (-1))
 else (bif decide (y < x)
 then (some 1)
 else (some 0))))
def a1E (a : ByteArray) (b : ByteArray) : Option Int :=
 Option.bind (b98 a b) fun r1 =>
 some r1
def a1C (a : ByteArray) (b : ByteArray) : Option Int :=
 Option.bind (a1E a b) fun r1 =>
 some r1
def a1O (a : Key) (b : Key) : Option Int :=
 Option.bind (a0K a.Kind b.Kind) fun r1 =>
 bif r1 != 0
 then (some r1)
 else (Option.bind (a1C a.Text b.Text) fun r2 =>
 some r2)
def a1W (l : List Api_Field) (x1 : Int) : Option (Fl Int (Sum Unit Bool)) :=
 bif decide (x1 < (l.length : Int))
 then (Option.bind (idx l x1) fun e2 =>
 Option.bind (a4j e2.Key_) fun r3 =>
 Option.bind (bif !r3
 then (some true)
 else (Option.bind (bif decide (0 < x1)
 then (Option.bind (idx l (wr .i64 (x1 - 1))) fun e4 =>
 Option.bind (a1O e4.Key_ e2.Key_) fun r5 =>
 some (decide (0 <= r5)))
 else (some false)) fun q6 =>
 some q6)) fun q7 =>
 bif q7
 then (some (.done (.inr false)))
 else (some (.next (wr .i64 (x1 + 1)))))
 else (some (.done (.inl ())))
def a2S (l : List Api_Field) : Option Bool :=
 Option.bind (j5 (a1W l) ((l.length : Int).toNat + 1) 0) fun b8 =>
 w5 (fun _ =>
 some true) (fun y10 =>
 some y10) b8
def a3T (d : Api_TypeNode) : Option Bool :=
 Option.bind (bif d.Kind == 1
 then (some (d.Kind == 1))
 else (bif d.Kind == 2
 then (some (d.Kind == 2))
 else (bif d.Kind == 5
 then (some (d.Kind == 5))
 else (bif d.Kind == 7
 then (some (d.Kind == 7))
 else (bif d.Kind == 8
 then (some (d.Kind == 8))
 else (bif d.Kind == 9
 then (some (d.Kind == 9))
 else (bif d.Kind == 11
 then (some (d.Kind == 11))
 else (some (d.Kind == 15))))))))) fun b1 =>
 bif b1
 then (some true)
 else (bif d.Kind == 3
 then (some (decide (d.Lo <= d.Hi)))
 else (bif d.Kind == 4
 then (some (decide ((d.Text.size : Int) <= 64)))
 else (bif d.Kind == 6
 then (Option.bind (a4B d.Text) fun r2 =>
 some r2)
 else (bif d.Kind == 19
 then (Option.bind (a3m d.Text) fun r3 =>
 some r3)
 else (bif d.Kind == 10
 then (some (decide ((d.Kids.length : Int) <= 4)))
 else (bif d.Kind == 12
 then (some ((d.Kids.length : Int) == 2))
 else (bif d.Kind == 13
 then (Option.bind (a2S d.Fields) fun r4 =>
 some r4)
 else (bif d.Kind == 14
 then (Option.bind (bif decide (1 <= (d.Kids.length : Int))
 then (some (decide ((d.Kids.length : Int) <= 5)))
 else (some false)) fun q5 =>
 some q5)
 else (Option.bind (bif d.Kind == 16
 then (some (d.Kind == 16))
 else (some (d.Kind == 17))) fun b6 =>
 bif b6
 then (some (decide (1 <= (d.Kids.length : Int))))
 else (bif d.Kind == 18
 then (some ((d.Kids.length : Int) == 1))
 else (some false)))))))))))
def a1P (n_0 : Api_TypeNode) (x2 : (List Int) × Int) : Option (Fl ((List Int) × Int) (List Int)) :=
 bif decide (x2.2 < (n_0.Fields.length : Int))
 then (Option.bind (idx n_0.Fields x2.2) fun e3 =>
 Option.bind (Z5 (x2.1.length + ([e3.Node] : List Int).length) 8) fun _ =>
 some (.next (x2.1 ++ ([e3.Node] : List Int), wr .i64 (x2.2 + 1))))
 else (some (.done x2.1))
def a57 (n_0 : Api_TypeNode) : Option (List Int) :=
 Option.bind (a2m 8 n_0.Kids) fun r1 =>
 Option.bind (j5 (a1P n_0) ((n_0.Fields.length : Int).toNat + 1) (r1, 0)) fun b5 =>
 bif n_0.Kind == 13
 then (Option.bind (Z5 (b5.length + ([n_0.Rest.1, n_0.Rest.2] : List Int).length) 8) fun _ =>
 some (b5 ++ ([n_0.Rest.1, n_0.Rest.2] : List Int)))
 else (some b5)
def a3S (kind : Int) : Option Bool :=
 Option.bind (bif kind == 16
 then (some true)
 else (some (kind == 17))) fun q1 =>
 Option.bind (bif q1
 then (some true)
 else (some (kind == 18))) fun q2 =>
 some q2
def Y3 (a2_2 : Api_Type) (e10 : Api_TypeNode) (rec_typeexpr_contractive_1 : Int -> (List Int) -> Api_Type -> Unit -> Option (Bool × (List Int))) (x11 : Int × (List Int)) : Option (Fl (Int × (List Int)) (Sum (List Int) (Bool × (List Int)))) :=
 bif decide (x11.1 < (e10.Kids.length : Int))
 then (Option.bind (idx e10.Kids x11.1) fun e12 =>
 Option.bind (rec_typeexpr_contractive_1 e12 x11.2 a2_2 ()) fun r13 =>
 bif !r13.1
 then (some (.done (.inr (false, r13.2))))
 else (some (.next (wr .i64 (x11.1 + 1), r13.2))))
 else (some (.done (.inl x11.2)))
def a3n (_ : Nat) (rec_typeexpr_contractive_1 : Int -> (List Int) -> Api_Type -> Unit -> Option (Bool × (List Int))) (i : Int) (a1_1 : List Int) (a2_2 : Api_Type) (_ : Unit) : Option (Bool × (List Int)) :=
 Option.bind (idx a1_1 i) fun _ =>
 Option.bind (a1_1[i.toNat]?) fun e2 =>
 Option.bind (bif e2 != 0
 then (some true)
 else (Option.bind (idx a2_2.Nodes i) fun e3 =>
 Option.bind (a3S e3.Kind) fun r4 =>
 some (!r4))) fun q5 =>
 bif q5
 then (Option.bind (idx a1_1 i) fun _ =>
 Option.bind (a1_1[i.toNat]?) fun e7 =>
 some (e7 != 1, a1_1))
 else (Option.bind (idx a1_1 i) fun _ =>
 Option.bind (a1_1[i.toNat]?) fun _ =>
 Option.bind (idx a2_2.Nodes i) fun e10 =>
 Option.bind (j5 (Y3 a2_2 e10 rec_typeexpr_contractive_1) ((e10.Kids.length : Int).toNat + 1) (0, a1_1.set i.toNat 1)) fun (b14 : Sum (List Int) (Bool × (List Int))) =>
 w5 (fun x15 =>
 Option.bind (idx x15 i) fun _ =>
 Option.bind (x15[i.toNat]?) fun _ =>
 some (true, x15.set i.toNat 2)) (fun y16 =>
 some (y16.1, y16.2)) b14)
def Y8 : Nat -> Int -> (List Int) -> Api_Type -> Unit -> Option (Bool × (List Int))
 | 0 => fun _ _ _ _ => none
 | n + 1 => a3n n (Y8 n)
def Q2 (t : Api_Type) (n : Nat) (x2 : Int × (List Int)) : Option (Fl (Int × (List Int)) (Sum (List Int) (Bool × (List Int)))) :=
 bif decide (x2.1 < (t.Nodes.length : Int))
 then (Option.bind (Y8 n x2.1 x2.2 t ()) fun r3 =>
 bif !r3.1
 then (some (.done (.inr (false, r3.2))))
 else (some (.next (wr .i64 (x2.1 + 1), r3.2))))
 else (some (.done (.inl x2.2)))
def a21 (n : Nat) (t : Api_Type) : Option Bool :=
 Option.bind (a6y (t.Nodes.length : Int) (t.Nodes.length : Int) 8) fun m1 =>
 Option.bind (j5 (Q2 t n) ((t.Nodes.length : Int).toNat + 1) (0, List.replicate m1 (0 : Int))) fun (b4 : Sum (List Int) (Bool × (List Int))) =>
 w5 (fun _ =>
 some true) (fun y6 =>
 some y6.1) b4
def a19 (t : Api_Type) (r7 : List Int) (x8 : Int) : Option (Fl Int (Sum Unit Int)) :=
 bif decide (x8 < (r7.length : Int))
 then (Option.bind (idx r7 x8) fun e9 =>
 Option.bind (bif decide (e9 < 0)
 then (some true)
 else (some (decide ((t.Nodes.length : Int) <= e9)))) fun q10 =>
 bif q10
 then (some (.done (.inr 1)))
 else (some (.next (wr .i64 (x8 + 1)))))
 else (some (.done (.inl ())))
def a2c (t : Api_Type) (x2 : Int) : Option (Fl Int (Sum Unit Int)) :=
 bif decide (x2 < (t.Nodes.length : Int))
 then (Option.bind (idx t.Nodes x2) fun e3 =>
 Option.bind (a3N e3) fun r4 =>
 Option.bind (bif !r4
 then (some true)
 else (Option.bind (a3T e3) fun r5 =>
 some (!r5))) fun q6 =>
 bif q6
 then (some (.done (.inr 1)))
 else (Option.bind (a57 e3) fun r7 =>
 Option.bind (j5 (a19 t r7) ((r7.length : Int).toNat + 1) 0) fun b11 =>
 w5 (fun _ =>
 some (.next (wr .i64 (x2 + 1)))) (fun y13 =>
 some (.done (.inr y13))) b11))
 else (some (.done (.inl ())))
def a1b (n : Nat) (t : Api_Type) : Option Int :=
 Option.bind (bif decide (t.Root < 0)
 then (some true)
 else (some (decide ((t.Nodes.length : Int) <= t.Root)))) fun q1 =>
 bif q1
 then (some 1)
 else (Option.bind (j5 (a2c t) ((t.Nodes.length : Int).toNat + 1) 0) fun b14 =>
 w5 (fun _ =>
 Option.bind (a21 n t) fun r17 =>
 bif !r17
 then (some 3)
 else (some 0)) (fun y16 =>
 some y16) b14)
def a05 (s : List Int) (f : Int -> Option Bool) (x1 : Int) : Option (Fl Int (Sum Unit Int)) :=
 bif decide (x1 < (s.length : Int))
 then (Option.bind (idx s x1) fun e2 =>
 Option.bind (f e2) fun r3 =>
 bif r3
 then (some (.done (.inr x1)))
 else (some (.next (wr .i64 (x1 + 1)))))
 else (some (.done (.inl ())))
def a3f (s : List Int) (f : Int -> Option Bool) : Option Int :=
 Option.bind (j5 (a05 s f) ((s.length : Int).toNat + 1) 0) fun b4 =>
 w5 (fun _ =>
 some (-1)) (fun y6 =>
 some y6) b4
def K6 (s : List Int) (f : Int -> Option Bool) : Option Bool :=
 Option.bind (a3f s f) fun r1 =>
 some (decide (0 <= r1))
def a6s (i : Int) (a1_1 : Api_Type) : Option Bool :=
 Option.bind (bif decide (i < 0)
 then (some true)
 else (some (decide ((a1_1.Nodes.length : Int) <= i)))) fun q1 =>
 Option.bind (bif q1
 then (some true)
 else (Option.bind (idx a1_1.Nodes i) fun e2 =>
 some (e2.Kind != 14))) fun q3 =>
 some q3
def a3P (t : Api_Type) (nodes : List Int) : Option Bool :=
 Option.bind (K6 nodes (fun z1 =>
 Option.bind (a6s z1 t) fun r2 =>
 some r2)) fun r3 =>
 some (!r3)
def a3b (arity : Int) (e3 : List Int) (x4 : (List (List Int)) × Int) : Option (Fl ((List (List Int)) × Int) (List (List Int))) :=
 bif decide (x4.2 <= arity)
 then (Option.bind (a2m 8 e3) fun r5 =>
 Option.bind (Z5 (r5.length + ([x4.2] : List Int).length) 8) fun _ =>
 Option.bind (Z5 (x4.1.length + ([r5 ++ ([x4.2] : List Int)] : List (List Int)).length) 24) fun _ =>
 some (.next (x4.1 ++ ([r5 ++ ([x4.2] : List Int)] : List (List Int)), wr .i64 (x4.2 + 1))))
 else (some (.done x4.1))
def a3d (arity : Int) (x1 : (List (List Int)) × Int) (x2 : (List (List Int)) × Int) : Option (Fl ((List (List Int)) × Int) (List (List Int))) :=
 bif decide (x2.2 < (x1.1.length : Int))
 then (Option.bind (idx x1.1 x2.2) fun e3 =>
 Option.bind (j5 (a3b arity e3) (arity.toNat + 2) (x2.1, 0)) fun b8 =>
 some (.next (b8, wr .i64 (x2.2 + 1))))
 else (some (.done x2.1))
def a3a (arity : Int) (nodes : Int) (x1 : (List (List Int)) × Int) : Option (Fl ((List (List Int)) × Int) (List (List Int))) :=
 bif decide (x1.2 < nodes)
 then (Option.bind (j5 (a3d arity x1) ((x1.1.length : Int).toNat + 1) ([], 0)) fun b9 =>
 some (.next (b9, wr .i64 (x1.2 + 1))))
 else (some (.done x1.1))
def a6X (arity : Int) (nodes : Int) : Option (List (List Int)) :=
 Option.bind (j5 (a3a arity nodes) (nodes.toNat + 1) (([([] : List Int)] : List (List Int)), 0)) fun b10 =>
 some b10
def a1X (s : List Int) (v : Int) (x1 : Int) : Option (Fl Int (Sum Unit Int)) :=
 bif decide (x1 < (s.length : Int))
 then (Option.bind (idx s x1) fun e2 =>
 bif v == e2
 then (some (.done (.inr x1)))
 else (some (.next (wr .i64 (x1 + 1)))))
 else (some (.done (.inl ())))
def a4V (s : List Int) (v : Int) : Option Int :=
 Option.bind (j5 (a1X s v) ((s.length : Int).toNat + 1) 0) fun b3 =>
 w5 (fun _ =>
 some (-1)) (fun y5 =>
 some y5) b3
def a1Y (s : List Int) (v : Int) : Option Bool :=
 Option.bind (a4V s v) fun r1 =>
 some (decide (0 <= r1))
def a7N (x : Int) (a1_1 : List Int) : Option Bool :=
 Option.bind (a1Y a1_1 x) fun r1 =>
 some r1
def a5n (a : List Int) (b : List Int) : Option Bool :=
 Option.bind (K6 a (fun z1 =>
 Option.bind (a7N z1 b) fun r2 =>
 some r2)) fun r3 =>
 some r3
def X7 (x1 : (List Int) × Int) (x16 : (Int × Int) × List Int) : Option (Fl ((Int × Int) × List Int) (Int × List Int)) :=
 bif decide (x16.1.2 < ((x16.2.drop x1.2.toNat).length : Int))
 then (Option.bind (idx (x16.2.drop x1.2.toNat) x16.1.2) fun _ =>
 Option.bind (x16.2[(x1.2.toNat + x16.1.2.toNat)]?) fun e18 =>
 Option.bind (idx (x16.2.drop x1.2.toNat) (wr .i64 (x16.1.2 - 1))) fun _ =>
 Option.bind (x16.2[(x1.2.toNat + (wr .i64 (x16.1.2 - 1)).toNat)]?) fun e20 =>
 bif e18 != e20
 then (Option.bind (idx (x16.2.drop x1.2.toNat) x16.1.2) fun _ =>
 Option.bind (x16.2[(x1.2.toNat + x16.1.2.toNat)]?) fun e22 =>
 Option.bind (idx x16.2 x16.1.1) fun _ =>
 Option.bind (x16.2[x16.1.1.toNat]?) fun _ =>
 some (.next ((wr .i64 (x16.1.1 + 1), wr .i64 (x16.1.2 + 1)), x16.2.set x16.1.1.toNat e22)))
 else (some (.next ((x16.1.1, wr .i64 (x16.1.2 + 1)), x16.2))))
 else (some (.done (x16.1.1, x16.2)))
def a0F (x1 : (List Int) × Int) : Option (Fl ((List Int) × Int) (Sum (List Int) ((List Int) × (List Int)))) :=
 bif decide (x1.2 < (x1.1.length : Int))
 then (Option.bind (idx x1.1 x1.2) fun _ =>
 Option.bind (x1.1[x1.2.toNat]?) fun e3 =>
 Option.bind (idx x1.1 (wr .i64 (x1.2 - 1))) fun _ =>
 Option.bind (x1.1[(wr .i64 (x1.2 - 1)).toNat]?) fun e5 =>
 bif e3 == e5
 then (Option.bind (idx x1.1 x1.2) fun _ =>
 Option.bind (j5 (X7 x1) (((x1.1.drop x1.2.toNat).length : Int).toNat + 1) ((x1.2, 1), x1.1)) fun b25 =>
 Option.bind (idx b25.2 b25.1) fun _ =>
 bif Nat.blt b25.1.toNat b25.2.length
 then (Option.bind (cut (b25.2.take b25.1.toNat ++ List.replicate (b25.2.length - b25.1.toNat) (0 : Int)) 0 b25.1) fun y27 =>
 some (.done (.inr (b25.2.take b25.1.toNat ++ List.replicate (b25.2.length - b25.1.toNat) (0 : Int), y27))))
 else (none))
 else (some (.next (x1.1, wr .i64 (x1.2 + 1)))))
 else (some (.done (.inl x1.1)))
def a2g (s : List Int) : Option (List Int) :=
 bif decide ((s.length : Int) < 2)
 then (some s)
 else (Option.bind (j5 a0F ((s.length : Int).toNat + 1) (s, 1)) fun b28 =>
 w5 (fun x29 =>
 some x29) (fun y30 =>
 some y30.2) b28)
def a5s (s : List Int) : Option (List Int) :=
 bif (s.length : Int) == (s.length : Int) && (s.length : Int) == (s.length : Int)
 then (some s)
 else (none)
def a6S (l : List Int) : Option (List Int) :=
 Option.bind (a2m 8 l) fun r1 =>
 Option.bind (b8l r1) fun r2 =>
 Option.bind (a2g r2.2) fun r3 =>
 Option.bind (a5s r3) fun r4 =>
 some r4
def a5o (g : Api_Goal) : Option Api_Goal :=
 Option.bind (a6S g.Pos) fun r1 =>
 Option.bind (a6S g.Neg) fun r2 =>
 some (Api_Goal.mk r1 r2 g.Lists)
def a4f (e1 : Api_TypeNode) (m2 : Nat) (x3 : Int × List Api_Goal) : Option (Fl (Int × List Api_Goal) (Unit × List Api_Goal)) :=
 bif decide (x3.1 < ((List.replicate m2 (Api_Goal.mk ([]) ([]) false : Api_Goal)).length : Int))
 then (Option.bind (idx e1.Kids x3.1) fun e4 =>
 Option.bind (idx x3.2 x3.1) fun _ =>
 Option.bind (x3.2[x3.1.toNat]?) fun e6 =>
 some (.next (wr .i64 (x3.1 + 1), x3.2.set x3.1.toNat (Api_Goal.mk ([e4] : List Int) e6.Neg e6.Lists))))
 else (some (.done ((), x3.2)))
def a16 (d : Api_Type) (t : List Int) (a3_3 : List Int) (e1 : Api_TypeNode) (x9 : (Bool × Int × ((List Int) × (List Int) × Bool)) × List Api_Goal) : Option (Fl ((Bool × Int × ((List Int) × (List Int) × Bool)) × List Api_Goal) (Sum ((Bool × ((List Int) × (List Int) × Bool)) × List Api_Goal) (((List Api_EntryForm) × ((List Int) × (List Int) × Bool)) × List Api_Goal))) :=
 bif decide (x9.1.2.1 < (t.length : Int))
 then (Option.bind (idx t x9.1.2.1) fun e10 =>
 Option.bind (idx a3_3 x9.1.2.1) fun e11 =>
 Option.bind (idx d.Nodes e10) fun e12 =>
 Option.bind (idx e12.Kids e11) fun e13 =>
 Option.bind (bif decide (e11 < (wr .i64 ((e1.Kids.length : Int) - 1)))
 then (Option.bind (idx d.Nodes e13) fun e14 =>
 some (e14.Kind == 2))
 else (some false)) fun q15 =>
 bif q15
 then (some (.done (.inr (([], (x9.1.2.2.1, x9.1.2.2.2.1, x9.1.2.2.2.2)), x9.2))))
 else (bif e11 == (wr .i64 ((e1.Kids.length : Int) - 1))
 then (Option.bind (Z5 (x9.1.2.2.1.length + ([e13] : List Int).length) 8) fun _ =>
 some (.next ((false, wr .i64 (x9.1.2.1 + 1), (x9.1.2.2.1 ++ ([e13] : List Int), x9.1.2.2.2.1, x9.1.2.2.2.2)), x9.2)))
 else (Option.bind (idx x9.2 e11) fun _ =>
 Option.bind (x9.2[e11.toNat]?) fun e18 =>
 Option.bind (Z5 (e18.Neg.length + ([e13] : List Int).length) 8) fun _ =>
 Option.bind (idx x9.2 e11) fun _ =>
 Option.bind (x9.2[e11.toNat]?) fun e21 =>
 bif Nat.beq (e11.toNat + 2) (e11.toNat + 2)
 then (some (.next ((x9.1.1, wr .i64 (x9.1.2.1 + 1), (x9.1.2.2.1, x9.1.2.2.2.1, x9.1.2.2.2.2)), x9.2.set e11.toNat (Api_Goal.mk e21.Pos (e18.Neg ++ ([e13] : List Int)) e21.Lists))))
 else (none))))
 else (some (.done (.inl ((x9.1.1, (x9.1.2.2.1, x9.1.2.2.2.1, x9.1.2.2.2.2)), x9.2))))
def a14 (x23 : (Bool × ((List Int) × (List Int) × Bool)) × List Api_Goal) (x25 : (List Api_Goal) × Int) : Option (Fl ((List Api_Goal) × Int) (Sum (List Api_Goal) (List Api_EntryForm))) :=
 bif decide (x25.2 < (x23.2.length : Int))
 then (Option.bind (idx x23.2 x25.2) fun e26 =>
 Option.bind (a5n e26.Pos e26.Neg) fun r27 =>
 bif r27
 then (some (.done (.inr ([]))))
 else (Option.bind (a5o e26) fun r28 =>
 Option.bind (Z5 (x25.1.length + ([r28] : List Api_Goal).length) 56) fun _ =>
 some (.next (x25.1 ++ ([r28] : List Api_Goal), wr .i64 (x25.2 + 1)))))
 else (some (.done (.inl x25.1)))
def a29 (b39 : (List Api_Goal) × (List Api_EntryForm)) (x40 : (List Api_Goal) × Int) : Option (Fl ((List Api_Goal) × Int) (List Api_Goal)) :=
 bif decide (x40.2 < (b39.1.length : Int))
 then (Option.bind (idx b39.1 x40.2) fun e41 =>
 Option.bind (a5o e41) fun r42 =>
 Option.bind (Z5 (x40.1.length + ([r42] : List Api_Goal).length) 56) fun _ =>
 some (.next (x40.1 ++ ([r42] : List Api_Goal), wr .i64 (x40.2 + 1))))
 else (some (.done x40.1))
def a8S (d : Api_Type) (t : List Int) (a2_2 : Int) (a3_3 : List Int) : Option (List Api_EntryForm) :=
 Option.bind (idx d.Nodes a2_2) fun e1 =>
 Option.bind (a6y (wr .i64 ((e1.Kids.length : Int) - 1)) (wr .i64 ((e1.Kids.length : Int) - 1)) 56) fun m2 =>
 Option.bind (j5 (a4f e1 m2) (((List.replicate m2 (Api_Goal.mk ([]) ([]) false : Api_Goal)).length : Int).toNat + 1) (0, List.replicate m2 (Api_Goal.mk ([]) ([]) false : Api_Goal))) fun b7 =>
 Option.bind (idx e1.Kids (wr .i64 ((e1.Kids.length : Int) - 1))) fun e8 =>
 Option.bind (j5 (a16 d t a3_3 e1) ((t.length : Int).toNat + 1) ((true, 0, ([], ([e8] : List Int), false)), b7.2)) fun b22 =>
 w5 (fun x23 =>
 Option.bind (j5 (a14 x23) ((x23.2.length : Int).toNat + 1) ([], 0)) fun b30 =>
 w5 (fun x31 =>
 Option.bind (a5n x23.1.2.1 x23.1.2.2.1) fun r33 =>
 Option.bind (bif !r33
 then (Option.bind (idx e1.Kids (wr .i64 ((e1.Kids.length : Int) - 1))) fun e34 =>
 Option.bind (idx d.Nodes e34) fun e35 =>
 some (e35.Kind != 2))
 else (some false)) fun q36 =>
 Option.bind (bif q36
 then (Option.bind (a5o (Api_Goal.mk x23.1.2.1 x23.1.2.2.1 x23.1.2.2.2)) fun r37 =>
 Option.bind (Z5 (0 + ([Api_EntryForm.mk x31 false r37] : List Api_EntryForm).length) 88) fun _ =>
 some (x31, ([Api_EntryForm.mk x31 false r37] : List Api_EntryForm)))
 else (some (x31, []))) fun b39 =>
 bif x23.1.1
 then (Option.bind (j5 (a29 b39) ((b39.1.length : Int).toNat + 1) ([], 0)) fun b44 =>
 Option.bind (Z5 (b39.2.length + ([Api_EntryForm.mk b44 true (Api_Goal.mk ([] : List Int) ([] : List Int) false)] : List Api_EntryForm).length) 88) fun _ =>
 some (b39.2 ++ ([Api_EntryForm.mk b44 true (Api_Goal.mk ([] : List Int) ([] : List Int) false)] : List Api_EntryForm)))
 else (some b39.2)) (fun y32 =>
 some y32) b30) (fun y24 =>
 some y24.1.1) b22
def a0U (d : Api_Type) (t : List Int) (e6 : Api_TypeNode) (x7 : Int) : Option (Fl Int (Sum Unit ((List Api_EntryForm) × Int))) :=
 bif decide (x7 < (t.length : Int))
 then (Option.bind (idx t x7) fun e8 =>
 Option.bind (idx d.Nodes e8) fun e9 =>
 bif (e9.Kids.length : Int) != (e6.Kids.length : Int)
 then (some (.done (.inr ([], 1))))
 else (some (.next (wr .i64 (x7 + 1)))))
 else (some (.done (.inl ())))
def a4t (d : Api_Type) (t : List Int) (a2_2 : Int) (r13 : List (List Int)) (x14 : (List Api_EntryForm) × Int) : Option (Fl ((List Api_EntryForm) × Int) (List Api_EntryForm)) :=
 bif decide (x14.2 < (r13.length : Int))
 then (Option.bind (idx r13 x14.2) fun e15 =>
 Option.bind (a8S d t a2_2 e15) fun r16 =>
 Option.bind (Z5 (x14.1.length + r16.length) 88) fun _ =>
 some (.next (x14.1 ++ r16, wr .i64 (x14.2 + 1))))
 else (some (.done x14.1))
def a2e (n : Nat) (d : Api_Type) (t : List Int) (a2_2 : Int) : Option ((List Api_EntryForm) × Int) :=
 Option.bind (Option.bind (a1b n d) fun r1 =>
 bif r1 != 0
 then (some true)
 else (Option.bind (a2m 8 t) fun r2 =>
 Option.bind (Z5 (r2.length + ([a2_2] : List Int).length) 8) fun _ =>
 Option.bind (a3P d (r2 ++ ([a2_2] : List Int))) fun r4 =>
 some (!r4))) fun b5 =>
 bif b5
 then (some ([], 1))
 else (Option.bind (idx d.Nodes a2_2) fun e6 =>
 Option.bind (j5 (a0U d t e6) ((t.length : Int).toNat + 1) 0) fun b10 =>
 w5 (fun _ =>
 Option.bind (a6X (wr .i64 ((e6.Kids.length : Int) - 1)) (t.length : Int)) fun r13 =>
 Option.bind (j5 (a4t d t a2_2 r13) ((r13.length : Int).toNat + 1) ([], 0)) fun b18 =>
 some (b18, 0)) (fun y12 =>
 some (y12.1, y12.2)) b10)
def a5m (s : List Val) (f : Val -> Option Bool) (x1 : Int) : Option (Fl Int (Sum Unit Int)) :=
 bif decide (x1 < (s.length : Int))
 then (Option.bind (idx s x1) fun e2 =>
 Option.bind (f e2) fun r3 =>
 bif r3
 then (some (.done (.inr x1)))
 else (some (.next (wr .i64 (x1 + 1)))))
 else (some (.done (.inl ())))
def a2r (s : List Val) (f : Val -> Option Bool) : Option Int :=
 Option.bind (j5 (a5m s f) ((s.length : Int).toNat + 1) 0) fun b4 =>
 w5 (fun _ =>
 some (-1)) (fun y6 =>
 some y6) b4
def a1S (s : List Val) (f : Val -> Option Bool) : Option Bool :=
 Option.bind (a2r s f) fun r1 =>
 some (decide (0 <= r1))
def b65 (kind : Int) : Option (Value_used × Bool) :=
 Option.bind (bif kind == 1
 then (some (kind == 1))
 else (some (kind == 4))) fun b1 =>
 bif b1
 then (some (Value_used.mk true false false false false, true))
 else (Option.bind (bif kind == 2
 then (some (kind == 2))
 else (some (kind == 3))) fun b2 =>
 bif b2
 then (some (Value_used.mk false true false false false, true))
 else (bif kind == 5
 then (some (Value_used.mk false false false false false, true))
 else (Option.bind (bif kind == 6
 then (some (kind == 6))
 else (some (kind == 7))) fun b3 =>
 bif b3
 then (some (Value_used.mk false false true false false, true))
 else (bif kind == 8
 then (some (Value_used.mk false false true true false, true))
 else (bif kind == 9
 then (some (Value_used.mk true false false false true, true))
 else (some (Value_used.mk false false false false false, false)))))))
def a93 (l : List ByteArray) (compare : ByteArray -> ByteArray -> Option Int) (x1 : Int) : Option (Fl Int (Sum Unit Bool)) :=
 bif decide (x1 < (l.length : Int))
 then (Option.bind (idx l (wr .i64 (x1 - 1))) fun e2 =>
 Option.bind (idx l x1) fun e3 =>
 Option.bind (compare e2 e3) fun r4 =>
 bif decide (0 <= r4)
 then (some (.done (.inr false)))
 else (some (.next (wr .i64 (x1 + 1)))))
 else (some (.done (.inl ())))
def a6R (l : List ByteArray) (compare : ByteArray -> ByteArray -> Option Int) : Option Bool :=
 Option.bind (j5 (a93 l compare) ((l.length : Int).toNat + 1) 1) fun b5 =>
 w5 (fun _ =>
 some true) (fun y7 =>
 some y7) b5
def b3u (l : List ByteArray) (x5 : Int) : Option (Fl Int (Sum Unit Bool)) :=
 bif decide (x5 < (l.length : Int))
 then (Option.bind (idx l x5) fun e6 =>
 Option.bind (a3m e6) fun r7 =>
 bif !r7
 then (some (.done (.inr false)))
 else (some (.next (wr .i64 (x5 + 1)))))
 else (some (.done (.inl ())))
def a9L (l : List ByteArray) : Option Bool :=
 Option.bind (a6R l (fun z1 z2 =>
 Option.bind (a1C z1 z2) fun r3 =>
 some r3)) fun r4 =>
 bif !r4
 then (some false)
 else (Option.bind (j5 (b3u l) ((l.length : Int).toNat + 1) 0) fun b8 =>
 w5 (fun _ =>
 some true) (fun y10 =>
 some y10) b8)
def a9z (l : List Key) (compare : Key -> Key -> Option Int) (x1 : Int) : Option (Fl Int (Sum Unit Bool)) :=
 bif decide (x1 < (l.length : Int))
 then (Option.bind (idx l (wr .i64 (x1 - 1))) fun e2 =>
 Option.bind (idx l x1) fun e3 =>
 Option.bind (compare e2 e3) fun r4 =>
 bif decide (0 <= r4)
 then (some (.done (.inr false)))
 else (some (.next (wr .i64 (x1 + 1)))))
 else (some (.done (.inl ())))
def a6p (l : List Key) (compare : Key -> Key -> Option Int) : Option Bool :=
 Option.bind (j5 (a9z l compare) ((l.length : Int).toNat + 1) 1) fun b5 =>
 w5 (fun _ =>
 some true) (fun y7 =>
 some y7) b5
def b53 (v : Val) (x6 : Int) : Option (Fl Int (Sum Unit Bool)) :=
 bif decide (x6 < (v.Keys.length : Int))
 then (Option.bind (idx v.Keys x6) fun e7 =>
 Option.bind (a4j e7) fun r8 =>
 bif !r8
 then (some (.done (.inr false)))
 else (some (.next (wr .i64 (x6 + 1)))))
 else (some (.done (.inl ())))
def b2b (v : Val) : Option Bool :=
 Option.bind (bif (v.Keys.length : Int) != (v.Kids.length : Int)
 then (some true)
 else (Option.bind (a6p v.Keys (fun z1 z2 =>
 Option.bind (a1O z1 z2) fun r3 =>
 some r3)) fun r4 =>
 some (!r4))) fun q5 =>
 bif q5
 then (some false)
 else (Option.bind (j5 (b53 v) ((v.Keys.length : Int).toNat + 1) 0) fun b9 =>
 w5 (fun _ =>
 some true) (fun y11 =>
 some y11) b9)
def a8K (l : List Ent) (compare : Ent -> Ent -> Option Int) (x1 : Int) : Option (Fl Int (Sum Unit Bool)) :=
 bif decide (x1 < (l.length : Int))
 then (Option.bind (idx l (wr .i64 (x1 - 1))) fun e2 =>
 Option.bind (idx l x1) fun e3 =>
 Option.bind (compare e2 e3) fun r4 =>
 bif decide (0 <= r4)
 then (some (.done (.inr false)))
 else (some (.next (wr .i64 (x1 + 1)))))
 else (some (.done (.inl ())))
def a5C (l : List Ent) (compare : Ent -> Ent -> Option Int) : Option Bool :=
 Option.bind (j5 (a8K l compare) ((l.length : Int).toNat + 1) 1) fun b5 =>
 w5 (fun _ =>
 some true) (fun y7 =>
 some y7) b5
def a7r (a : List Val) (b : List Val) (compare : Val -> Val -> Option Int) (x2 : Int) : Option (Fl Int (Sum Unit Int)) :=
 bif decide (x2 < (a.length : Int))
 then (Option.bind (idx a x2) fun e3 =>
 Option.bind (idx b x2) fun e4 =>
 Option.bind (compare e3 e4) fun r5 =>
 bif r5 != 0
 then (some (.done (.inr r5)))
 else (some (.next (wr .i64 (x2 + 1)))))
 else (some (.done (.inl ())))
def a4s (a : List Val) (b : List Val) (compare : Val -> Val -> Option Int) : Option Int :=
 Option.bind (a0K (a.length : Int) (b.length : Int)) fun r1 =>
 bif r1 != 0
 then (some r1)
 else (Option.bind (j5 (a7r a b compare) ((a.length : Int).toNat + 1) 0) fun b6 =>
 w5 (fun _ =>
 some 0) (fun y8 =>
 some y8) b6)
def a7B (x : Int) : Option Bool :=
 some (x != x)
def a9K (x : Int) (y : Int) : Option Int :=
 Option.bind (a7B x) fun r1 =>
 Option.bind (a7B y) fun r2 =>
 bif r1
 then (bif r2
 then (some 0)
 else (some (-1)))
 else (bif r2
 then (some 1)
 else (bif decide (x < y)
 then (some (-1))
 else (bif decide (y < x)
 then (some 1)
 else (some 0))))
def a78 (a : List Key) (b : List Key) (compare : Key -> Key -> Option Int) (x2 : Int) : Option (Fl Int (Sum Unit Int)) :=
 bif decide (x2 < (a.length : Int))
 then (Option.bind (idx a x2) fun e3 =>
 Option.bind (idx b x2) fun e4 =>
 Option.bind (compare e3 e4) fun r5 =>
 bif r5 != 0
 then (some (.done (.inr r5)))
 else (some (.next (wr .i64 (x2 + 1)))))
 else (some (.done (.inl ())))
def a5h (a : List Key) (b : List Key) (compare : Key -> Key -> Option Int) : Option Int :=
 Option.bind (a0K (a.length : Int) (b.length : Int)) fun r1 =>
 bif r1 != 0
 then (some r1)
 else (Option.bind (j5 (a78 a b compare) ((a.length : Int).toNat + 1) 0) fun b6 =>
 w5 (fun _ =>
 some 0) (fun y8 =>
 some y8) b6)
def a7p (a : List Ent) (b : List Ent) (compare : Ent -> Ent -> Option Int) (x2 : Int) : Option (Fl Int (Sum Unit Int)) :=
 bif decide (x2 < (a.length : Int))
 then (Option.bind (idx a x2) fun e3 =>
 Option.bind (idx b x2) fun e4 =>
 Option.bind (compare e3 e4) fun r5 =>
 bif r5 != 0
 then (some (.done (.inr r5)))
 else (some (.next (wr .i64 (x2 + 1)))))
 else (some (.done (.inl ())))
def a4n (a : List Ent) (b : List Ent) (compare : Ent -> Ent -> Option Int) : Option Int :=
 Option.bind (a0K (a.length : Int) (b.length : Int)) fun r1 =>
 bif r1 != 0
 then (some r1)
 else (Option.bind (j5 (a7p a b compare) ((a.length : Int).toNat + 1) 0) fun b6 =>
 w5 (fun _ =>
 some 0) (fun y8 =>
 some y8) b6)
def a8G (a : List ByteArray) (b : List ByteArray) (compare : ByteArray -> ByteArray -> Option Int) (x2 : Int) : Option (Fl Int (Sum Unit Int)) :=
 bif decide (x2 < (a.length : Int))
 then (Option.bind (idx a x2) fun e3 =>
 Option.bind (idx b x2) fun e4 =>
 Option.bind (compare e3 e4) fun r5 =>
 bif r5 != 0
 then (some (.done (.inr r5)))
 else (some (.next (wr .i64 (x2 + 1)))))
 else (some (.done (.inl ())))
def a5A (a : List ByteArray) (b : List ByteArray) (compare : ByteArray -> ByteArray -> Option Int) : Option Int :=
 Option.bind (a0K (a.length : Int) (b.length : Int)) fun r1 =>
 bif r1 != 0
 then (some r1)
 else (Option.bind (j5 (a8G a b compare) ((a.length : Int).toNat + 1) 0) fun b6 =>
 w5 (fun _ =>
 some 0) (fun y8 =>
 some y8) b6)
def b7z (_ : Nat) (_ : Val -> Val -> Option Int) (rec_value_compareEntries : Ent -> Ent -> Option Int) (rec_value_compareValues : (List Val) -> (List Val) -> Option Int) (a : Val) (b : Val) : Option Int :=
 Option.bind (a0K a.Kind b.Kind) fun r1 =>
 bif r1 != 0
 then (some r1)
 else (Option.bind (a9K a.Int_ b.Int_) fun r2 =>
 bif r2 != 0
 then (some r2)
 else (Option.bind (a1C a.Text b.Text) fun r3 =>
 bif r3 != 0
 then (some r3)
 else (Option.bind (a5h a.Keys b.Keys (fun z4 z5 =>
 Option.bind (a1O z4 z5) fun r6 =>
 some r6)) fun r7 =>
 bif r7 != 0
 then (some r7)
 else (Option.bind (rec_value_compareValues a.Kids b.Kids) fun r8 =>
 bif r8 != 0
 then (some r8)
 else (Option.bind (a4n a.Entries b.Entries (fun z9 z10 =>
 Option.bind (rec_value_compareEntries z9 z10) fun r11 =>
 some r11)) fun r12 =>
 bif r12 != 0
 then (some r12)
 else (Option.bind (a5A a.Labels b.Labels (fun z13 z14 =>
 Option.bind (a1C z13 z14) fun r15 =>
 some r15)) fun r16 =>
 some r16))))))
def b1D (_ : Nat) (rec_value_Compare : Val -> Val -> Option Int) (_ : Ent -> Ent -> Option Int) (rec_value_compareValues : (List Val) -> (List Val) -> Option Int) (a : Ent) (b : Ent) : Option Int :=
 Option.bind (rec_value_compareValues a.Args b.Args) fun r1 =>
 bif r1 != 0
 then (some r1)
 else (bif a.Fails != b.Fails
 then (bif a.Fails
 then (some (-1))
 else (some 1))
 else (Option.bind (rec_value_Compare a.Result b.Result) fun r2 =>
 some r2))
def b2E (_ : Nat) (rec_value_Compare : Val -> Val -> Option Int) (_ : Ent -> Ent -> Option Int) (_ : (List Val) -> (List Val) -> Option Int) (a : List Val) (b : List Val) : Option Int :=
 Option.bind (a4s a b (fun z1 z2 =>
 Option.bind (rec_value_Compare z1 z2) fun r3 =>
 some r3)) fun r4 =>
 some r4
def K0 : Nat -> (Val -> Val -> Option Int) × (Ent -> Ent -> Option Int) × ((List Val) -> (List Val) -> Option Int)
 | 0 => (fun _ _ => none, fun _ _ => none, fun _ _ => none)
 | n + 1 => (b7z n ((K0 n).1) ((K0 n).2.1) ((K0 n).2.2), b1D n ((K0 n).1) ((K0 n).2.1) ((K0 n).2.2), b2E n ((K0 n).1) ((K0 n).2.1) ((K0 n).2.2))
def b3H (n : Nat) : Val -> Val -> Option Int := (K0 n).1
def a7V (n : Nat) : Ent -> Ent -> Option Int := (K0 n).2.1
def b3T (n : Nat) : (List Val) -> (List Val) -> Option Int := (K0 n).2.2
def b6e (n : Nat) (a : Val) (b : Val) : Option Bool :=
 Option.bind (b3H n a b) fun r1 =>
 some (r1 == 0)
def b4z (n : Nat) (v : Val) : Option Bool :=
 Option.bind (b6e n v (Val.mk 0 0 (⟨#[]⟩ : ByteArray) ([] : List Val) ([] : List Key) ([] : List Ent) ([] : List ByteArray))) fun r1 =>
 some r1
def b0p (n : Nat) (e : Ent) (arity : Int) : Option Bool :=
 Option.bind (bif (e.Args.length : Int) == arity
 then (Option.bind (bif !e.Fails
 then (some true)
 else (Option.bind (b4z n e.Result) fun r1 =>
 some r1)) fun q2 =>
 some q2)
 else (some false)) fun q3 =>
 some q3
def b1Q (v : Val) (n : Nat) (x7 : Int) : Option (Fl Int (Sum Unit Bool)) :=
 bif decide (x7 < (v.Entries.length : Int))
 then (Option.bind (idx v.Entries x7) fun e8 =>
 Option.bind (b0p n e8 v.Int_) fun r9 =>
 bif !r9
 then (some (.done (.inr false)))
 else (some (.next (wr .i64 (x7 + 1)))))
 else (some (.done (.inl ())))
def a8e (n : Nat) (v : Val) : Option Bool :=
 Option.bind (bif decide (v.Int_ < 0)
 then (some true)
 else (some (decide (4 < v.Int_)))) fun q1 =>
 Option.bind (bif q1
 then (some true)
 else (Option.bind (a5C v.Entries (fun z2 z3 =>
 Option.bind (a7V n z2 z3) fun r4 =>
 some r4)) fun r5 =>
 some (!r5))) fun q6 =>
 bif q6
 then (some false)
 else (Option.bind (j5 (b1Q v n) ((v.Entries.length : Int).toNat + 1) 0) fun b10 =>
 w5 (fun _ =>
 some true) (fun y12 =>
 some y12) b10)
def b1g (n : Nat) (d : Val) : Option Bool :=
 Option.bind (b65 d.Kind) fun r1 =>
 Option.bind (bif !r1.2
 then (some true)
 else (Option.bind (a9L d.Labels) fun r2 =>
 some (!r2))) fun q3 =>
 bif q3
 then (some false)
 else (Option.bind (bif !r1.1.number
 then (some (d.Int_ != 0))
 else (some false)) fun q4 =>
 Option.bind (bif q4
 then (some true)
 else (Option.bind (bif !r1.1.text_
 then (some (!(V3 d.Text (⟨#[]⟩ : ByteArray))))
 else (some false)) fun q5 =>
 some q5)) fun q6 =>
 Option.bind (bif q6
 then (some true)
 else (Option.bind (bif !r1.1.kids
 then (some (decide (0 < (d.Kids.length : Int))))
 else (some false)) fun q7 =>
 some q7)) fun q8 =>
 Option.bind (bif q8
 then (some true)
 else (Option.bind (bif !r1.1.keys
 then (some (decide (0 < (d.Keys.length : Int))))
 else (some false)) fun q9 =>
 some q9)) fun q10 =>
 Option.bind (bif q10
 then (some true)
 else (Option.bind (bif !r1.1.entries
 then (some (decide (0 < (d.Entries.length : Int))))
 else (some false)) fun q11 =>
 some q11)) fun q12 =>
 bif q12
 then (some false)
 else (bif d.Kind == 2
 then (some (decide ((d.Text.size : Int) <= 64)))
 else (bif d.Kind == 3
 then (Option.bind (a4B d.Text) fun r13 =>
 some r13)
 else (bif d.Kind == 4
 then (some (decide (0 <= d.Int_)))
 else (bif d.Kind == 6
 then (some (decide ((d.Kids.length : Int) <= 4)))
 else (bif d.Kind == 7
 then (Option.bind (bif (d.Kids.length : Int) == 2
 then (Option.bind (idx d.Kids 1) fun e14 =>
 Option.bind (bif e14.Kind == 5
 then (some true)
 else (Option.bind (idx d.Kids 1) fun e15 =>
 some (e15.Kind == 7))) fun q16 =>
 some q16)
 else (some false)) fun q17 =>
 some q17)
 else (bif d.Kind == 8
 then (Option.bind (b2b d) fun r18 =>
 some r18)
 else (bif d.Kind == 9
 then (Option.bind (a8e n d) fun r19 =>
 some r19)
 else (some true)))))))))
def b8k (v : Val) (x2 : (List Val) × Int) : Option (Fl ((List Val) × Int) (List Val)) :=
 bif decide (x2.2 < (v.Entries.length : Int))
 then (Option.bind (idx v.Entries x2.2) fun e3 =>
 Option.bind (Z5 (x2.1.length + e3.Args.length) 128) fun _ =>
 bif !e3.Fails
 then (Option.bind (Z5 ((x2.1 ++ e3.Args).length + ([e3.Result] : List Val).length) 128) fun _ =>
 some (.next ((x2.1 ++ e3.Args) ++ ([e3.Result] : List Val), wr .i64 (x2.2 + 1))))
 else (some (.next (x2.1 ++ e3.Args, wr .i64 (x2.2 + 1)))))
 else (some (.done x2.1))
def b58 (v : Val) : Option (List Val) :=
 Option.bind (a2m 128 v.Kids) fun r1 =>
 Option.bind (j5 (b8k v) ((v.Entries.length : Int).toNat + 1) (r1, 0)) fun b6 =>
 some b6
def b5f (r2 : List Val) (rec_value_validTree : Val -> Option Bool) (x3 : Int) : Option (Fl Int (Sum Unit Bool)) :=
 bif decide (x3 < (r2.length : Int))
 then (Option.bind (idx r2 x3) fun e4 =>
 Option.bind (rec_value_validTree e4) fun r5 =>
 bif !r5
 then (some (.done (.inr false)))
 else (some (.next (wr .i64 (x3 + 1)))))
 else (some (.done (.inl ())))
def b5O (n : Nat) (rec_value_validTree : Val -> Option Bool) (v : Val) : Option Bool :=
 Option.bind (b1g n v) fun r1 =>
 bif !r1
 then (some false)
 else (Option.bind (b58 v) fun r2 =>
 Option.bind (j5 (b5f r2 rec_value_validTree) ((r2.length : Int).toNat + 1) 0) fun b6 =>
 w5 (fun _ =>
 some true) (fun y8 =>
 some y8) b6)
def a71 : Nat -> Val -> Option Bool
 | 0 => fun _ => none
 | n + 1 => b5O n (a71 n)
def b2i (n : Nat) (v : Val) : Option Int :=
 Option.bind (a71 n v) fun r1 =>
 bif !r1
 then (some 1)
 else (some 0)
def a5J (n : Nat) (v : Val) : Option Bool :=
 Option.bind (b2i n v) fun r1 =>
 some (r1 != 0)
def b0R (n : Nat) (e : Ent) : Option Bool :=
 Option.bind (a1S e.Args (fun z1 =>
 Option.bind (a5J n z1) fun r2 =>
 some r2)) fun r3 =>
 Option.bind (bif !r3
 then (Option.bind (bif e.Fails
 then (some true)
 else (Option.bind (a5J n e.Result) fun r4 =>
 some (!r4))) fun q5 =>
 some q5)
 else (some false)) fun q6 =>
 some q6
def b59 (kind : Int) : Option Int :=
 bif kind == 5
 then (some 2)
 else (bif kind == 7
 then (some 3)
 else (bif kind == 8
 then (some 4)
 else (bif kind == 9
 then (some 5)
 else (bif kind == 11
 then (some 6)
 else (some 9)))))
def a7t (s : List Key) (v : Key) (x1 : Int) : Option (Fl Int (Sum Unit Int)) :=
 bif decide (x1 < (s.length : Int))
 then (Option.bind (idx s x1) fun e2 =>
 bif a7b v e2
 then (some (.done (.inr x1)))
 else (some (.next (wr .i64 (x1 + 1)))))
 else (some (.done (.inl ())))
def a4r (s : List Key) (v : Key) : Option Int :=
 Option.bind (j5 (a7t s v) ((s.length : Int).toNat + 1) 0) fun b3 =>
 w5 (fun _ =>
 some (-1)) (fun y5 =>
 some y5) b3
def a3B (s : List Key) (v : Key) : Option Bool :=
 Option.bind (a4r s v) fun r1 =>
 some (decide (0 <= r1))
def c2i (n_0 : Api_TypeNode) (k : Key) (x1 : Int) : Option (Fl Int (Sum Unit Int)) :=
 bif decide (x1 < (n_0.Fields.length : Int))
 then (Option.bind (idx n_0.Fields x1) fun e2 =>
 bif a7b e2.Key_ k
 then (some (.done (.inr e2.Node)))
 else (some (.next (wr .i64 (x1 + 1)))))
 else (some (.done (.inl ())))
def c1q (n_0 : Api_TypeNode) (k : Key) : Option Int :=
 Option.bind (j5 (c2i n_0 k) ((n_0.Fields.length : Int).toNat + 1) 0) fun b3 =>
 w5 (fun _ =>
 bif k.Kind == 0
 then (some n_0.Rest.1)
 else (bif k.Kind == 1
 then (some n_0.Rest.2)
 else (none))) (fun y5 =>
 some y5) b3
def a76 (s : List ByteArray) (v : ByteArray) (x1 : Int) : Option (Fl Int (Sum Unit Int)) :=
 bif decide (x1 < (s.length : Int))
 then (Option.bind (idx s x1) fun e2 =>
 bif V3 v e2
 then (some (.done (.inr x1)))
 else (some (.next (wr .i64 (x1 + 1)))))
 else (some (.done (.inl ())))
def a5f (s : List ByteArray) (v : ByteArray) : Option Int :=
 Option.bind (j5 (a76 s v) ((s.length : Int).toNat + 1) 0) fun b3 =>
 w5 (fun _ =>
 some (-1)) (fun y5 =>
 some y5) b3
def a38 (s : List ByteArray) (v : ByteArray) : Option Bool :=
 Option.bind (a5f s v) fun r1 =>
 some (decide (0 <= r1))
def c0L (l : List Val) (t : Api_Type) (nodes : List Int) (rec_core_Has : Val -> Api_Type -> Int -> Option Bool) (x1 : Int) : Option (Fl Int (Sum Unit Bool)) :=
 bif decide (x1 < (l.length : Int))
 then (Option.bind (idx l x1) fun e2 =>
 Option.bind (idx nodes x1) fun e3 =>
 Option.bind (rec_core_Has e2 t e3) fun r4 =>
 bif !r4
 then (some (.done (.inr false)))
 else (some (.next (wr .i64 (x1 + 1)))))
 else (some (.done (.inl ())))
def b3R (v : Val) (t : Api_Type) (n_2 : Api_TypeNode) (rec_core_EntryAllowed : Ent -> Api_Type -> Api_TypeNode -> Option Bool) (x1 : Int) : Option (Fl Int (Sum Unit Bool)) :=
 bif decide (x1 < (v.Entries.length : Int))
 then (Option.bind (idx v.Entries x1) fun e2 =>
 Option.bind (rec_core_EntryAllowed e2 t n_2) fun r3 =>
 bif !r3
 then (some (.done (.inr false)))
 else (some (.next (wr .i64 (x1 + 1)))))
 else (some (.done (.inl ())))
def b8b (v : Val) (n_2 : Api_TypeNode) (x1 : Int) : Option (Fl Int (Sum Unit Bool)) :=
 bif decide (x1 < (n_2.Fields.length : Int))
 then (Option.bind (idx n_2.Fields x1) fun e2 =>
 Option.bind (bif !e2.Optional
 then (Option.bind (a3B v.Keys e2.Key_) fun r3 =>
 some (!r3))
 else (some false)) fun q4 =>
 bif q4
 then (some (.done (.inr false)))
 else (some (.next (wr .i64 (x1 + 1)))))
 else (some (.done (.inl ())))
def b77 (v : Val) (t : Api_Type) (n_2 : Api_TypeNode) (rec_core_Has : Val -> Api_Type -> Int -> Option Bool) (x8 : Int) : Option (Fl Int (Sum Unit Bool)) :=
 bif decide (x8 < (v.Keys.length : Int))
 then (Option.bind (idx v.Keys x8) fun e9 =>
 Option.bind (idx v.Kids x8) fun e10 =>
 Option.bind (c1q n_2 e9) fun r11 =>
 Option.bind (rec_core_Has e10 t r11) fun r12 =>
 bif !r12
 then (some (.done (.inr false)))
 else (some (.next (wr .i64 (x8 + 1)))))
 else (some (.done (.inl ())))
def c1t (_ : Nat) (_ : (List Val) -> Api_Type -> (List Int) -> Option Bool) (_ : Ent -> Api_Type -> Api_TypeNode -> Option Bool) (_ : Val -> Api_Type -> Api_TypeNode -> Option Bool) (rec_core_Has : Val -> Api_Type -> Int -> Option Bool) (_ : Int -> Val -> Api_Type -> Option Bool) (_ : Int -> Val -> Api_Type -> Option Bool) (_ : Val -> Api_Type -> Api_TypeNode -> Option Bool) (l : List Val) (t : Api_Type) (nodes : List Int) : Option Bool :=
 bif (l.length : Int) != (nodes.length : Int)
 then (some false)
 else (Option.bind (j5 (c0L l t nodes rec_core_Has) ((l.length : Int).toNat + 1) 0) fun b5 =>
 w5 (fun _ =>
 some true) (fun y7 =>
 some y7) b5)
def b3U (_ : Nat) (rec_core_all : (List Val) -> Api_Type -> (List Int) -> Option Bool) (_ : Ent -> Api_Type -> Api_TypeNode -> Option Bool) (_ : Val -> Api_Type -> Api_TypeNode -> Option Bool) (rec_core_Has : Val -> Api_Type -> Int -> Option Bool) (_ : Int -> Val -> Api_Type -> Option Bool) (_ : Int -> Val -> Api_Type -> Option Bool) (_ : Val -> Api_Type -> Api_TypeNode -> Option Bool) (e : Ent) (t : Api_Type) (n_2 : Api_TypeNode) : Option Bool :=
 Option.bind (cut n_2.Kids 0 (wr .i64 ((n_2.Kids.length : Int) - 1))) fun y1 =>
 Option.bind (rec_core_all e.Args t y1) fun r2 =>
 Option.bind (bif !r2
 then (some true)
 else (Option.bind (bif !e.Fails
 then (Option.bind (idx n_2.Kids (wr .i64 ((n_2.Kids.length : Int) - 1))) fun e3 =>
 Option.bind (rec_core_Has e.Result t e3) fun r4 =>
 some r4)
 else (some false)) fun q5 =>
 some q5)) fun q6 =>
 some q6
def b4X (_ : Nat) (_ : (List Val) -> Api_Type -> (List Int) -> Option Bool) (rec_core_EntryAllowed : Ent -> Api_Type -> Api_TypeNode -> Option Bool) (_ : Val -> Api_Type -> Api_TypeNode -> Option Bool) (_ : Val -> Api_Type -> Int -> Option Bool) (_ : Int -> Val -> Api_Type -> Option Bool) (_ : Int -> Val -> Api_Type -> Option Bool) (_ : Val -> Api_Type -> Api_TypeNode -> Option Bool) (v : Val) (t : Api_Type) (n_2 : Api_TypeNode) : Option Bool :=
 bif v.Int_ != (wr .i64 ((n_2.Kids.length : Int) - 1))
 then (some false)
 else (Option.bind (j5 (b3R v t n_2 rec_core_EntryAllowed) ((v.Entries.length : Int).toNat + 1) 0) fun b4 =>
 w5 (fun _ =>
 some true) (fun y6 =>
 some y6) b4)
def c2f (_ : Nat) (rec_core_all : (List Val) -> Api_Type -> (List Int) -> Option Bool) (_ : Ent -> Api_Type -> Api_TypeNode -> Option Bool) (rec_core_functionHas : Val -> Api_Type -> Api_TypeNode -> Option Bool) (rec_core_Has : Val -> Api_Type -> Int -> Option Bool) (rec_core_Has_1 : Int -> Val -> Api_Type -> Option Bool) (rec_core_Has_2 : Int -> Val -> Api_Type -> Option Bool) (rec_core_mapHas : Val -> Api_Type -> Api_TypeNode -> Option Bool) (d : Val) (t : Api_Type) (a2_2 : Int) : Option Bool :=
 Option.bind (idx t.Nodes a2_2) fun e1 =>
 bif e1.Kind == 2
 then (some true)
 else (bif e1.Kind == 3
 then (Option.bind (bif d.Kind == 1
 then (some (decide (e1.Lo <= d.Int_)))
 else (some false)) fun q2 =>
 Option.bind (bif q2
 then (some (decide (d.Int_ <= e1.Hi)))
 else (some false)) fun q3 =>
 some q3)
 else (bif e1.Kind == 4
 then (Option.bind (bif d.Kind == 2
 then (some (V3 d.Text e1.Text))
 else (some false)) fun q4 =>
 some q4)
 else (bif e1.Kind == 6
 then (Option.bind (bif d.Kind == 3
 then (some (V3 d.Text e1.Text))
 else (some false)) fun q5 =>
 some q5)
 else (Option.bind (bif e1.Kind == 5
 then (some (e1.Kind == 5))
 else (bif e1.Kind == 7
 then (some (e1.Kind == 7))
 else (bif e1.Kind == 8
 then (some (e1.Kind == 8))
 else (bif e1.Kind == 9
 then (some (e1.Kind == 9))
 else (bif e1.Kind == 11
 then (some (e1.Kind == 11))
 else (some (e1.Kind == 15))))))) fun b6 =>
 bif b6
 then (Option.bind (b59 e1.Kind) fun r7 =>
 some (d.Kind == r7))
 else (bif e1.Kind == 10
 then (Option.bind (bif d.Kind == 6
 then (Option.bind (rec_core_all d.Kids t e1.Kids) fun r8 =>
 some r8)
 else (some false)) fun q9 =>
 some q9)
 else (bif e1.Kind == 12
 then (Option.bind (bif d.Kind == 7
 then (Option.bind (rec_core_all d.Kids t e1.Kids) fun r10 =>
 some r10)
 else (some false)) fun q11 =>
 some q11)
 else (bif e1.Kind == 13
 then (Option.bind (bif d.Kind == 8
 then (Option.bind (rec_core_mapHas d t e1) fun r12 =>
 some r12)
 else (some false)) fun q13 =>
 some q13)
 else (bif e1.Kind == 14
 then (Option.bind (bif d.Kind == 9
 then (Option.bind (rec_core_functionHas d t e1) fun r14 =>
 some r14)
 else (some false)) fun q15 =>
 some q15)
 else (bif e1.Kind == 16
 then (Option.bind (K6 e1.Kids (fun z16 =>
 Option.bind (rec_core_Has_1 z16 d t) fun r17 =>
 some r17)) fun r18 =>
 some r18)
 else (bif e1.Kind == 17
 then (Option.bind (K6 e1.Kids (fun z19 =>
 Option.bind (rec_core_Has_2 z19 d t) fun r20 =>
 some r20)) fun r21 =>
 some (!r21))
 else (bif e1.Kind == 18
 then (Option.bind (idx e1.Kids 0) fun e22 =>
 Option.bind (rec_core_Has d t e22) fun r23 =>
 some (!r23))
 else (bif e1.Kind == 19
 then (Option.bind (a38 d.Labels e1.Text) fun r24 =>
 some r24)
 else (some false)))))))))))))
def c0c (_ : Nat) (_ : (List Val) -> Api_Type -> (List Int) -> Option Bool) (_ : Ent -> Api_Type -> Api_TypeNode -> Option Bool) (_ : Val -> Api_Type -> Api_TypeNode -> Option Bool) (rec_core_Has : Val -> Api_Type -> Int -> Option Bool) (_ : Int -> Val -> Api_Type -> Option Bool) (_ : Int -> Val -> Api_Type -> Option Bool) (_ : Val -> Api_Type -> Api_TypeNode -> Option Bool) (k : Int) (a1_1 : Val) (a2_2 : Api_Type) : Option Bool :=
 Option.bind (rec_core_Has a1_1 a2_2 k) fun r1 =>
 some r1
def b9C (_ : Nat) (_ : (List Val) -> Api_Type -> (List Int) -> Option Bool) (_ : Ent -> Api_Type -> Api_TypeNode -> Option Bool) (_ : Val -> Api_Type -> Api_TypeNode -> Option Bool) (rec_core_Has : Val -> Api_Type -> Int -> Option Bool) (_ : Int -> Val -> Api_Type -> Option Bool) (_ : Int -> Val -> Api_Type -> Option Bool) (_ : Val -> Api_Type -> Api_TypeNode -> Option Bool) (k : Int) (a1_1 : Val) (a2_2 : Api_Type) : Option Bool :=
 Option.bind (rec_core_Has a1_1 a2_2 k) fun r1 =>
 some (!r1)
def b8Z (_ : Nat) (_ : (List Val) -> Api_Type -> (List Int) -> Option Bool) (_ : Ent -> Api_Type -> Api_TypeNode -> Option Bool) (_ : Val -> Api_Type -> Api_TypeNode -> Option Bool) (rec_core_Has : Val -> Api_Type -> Int -> Option Bool) (_ : Int -> Val -> Api_Type -> Option Bool) (_ : Int -> Val -> Api_Type -> Option Bool) (_ : Val -> Api_Type -> Api_TypeNode -> Option Bool) (v : Val) (t : Api_Type) (n_2 : Api_TypeNode) : Option Bool :=
 Option.bind (j5 (b8b v n_2) ((n_2.Fields.length : Int).toNat + 1) 0) fun b5 =>
 w5 (fun _ =>
 Option.bind (j5 (b77 v t n_2 rec_core_Has) ((v.Keys.length : Int).toNat + 1) 0) fun b13 =>
 w5 (fun _ =>
 some true) (fun y15 =>
 some y15) b13) (fun y7 =>
 some y7) b5
def j9 : Nat -> ((List Val) -> Api_Type -> (List Int) -> Option Bool) × (Ent -> Api_Type -> Api_TypeNode -> Option Bool) × (Val -> Api_Type -> Api_TypeNode -> Option Bool) × (Val -> Api_Type -> Int -> Option Bool) × (Int -> Val -> Api_Type -> Option Bool) × (Int -> Val -> Api_Type -> Option Bool) × (Val -> Api_Type -> Api_TypeNode -> Option Bool)
 | 0 => (fun _ _ _ => none, fun _ _ _ => none, fun _ _ _ => none, fun _ _ _ => none, fun _ _ _ => none, fun _ _ _ => none, fun _ _ _ => none)
 | n + 1 => (c1t n ((j9 n).1) ((j9 n).2.1) ((j9 n).2.2.1) ((j9 n).2.2.2.1) ((j9 n).2.2.2.2.1) ((j9 n).2.2.2.2.2.1) ((j9 n).2.2.2.2.2.2), b3U n ((j9 n).1) ((j9 n).2.1) ((j9 n).2.2.1) ((j9 n).2.2.2.1) ((j9 n).2.2.2.2.1) ((j9 n).2.2.2.2.2.1) ((j9 n).2.2.2.2.2.2), b4X n ((j9 n).1) ((j9 n).2.1) ((j9 n).2.2.1) ((j9 n).2.2.2.1) ((j9 n).2.2.2.2.1) ((j9 n).2.2.2.2.2.1) ((j9 n).2.2.2.2.2.2), c2f n ((j9 n).1) ((j9 n).2.1) ((j9 n).2.2.1) ((j9 n).2.2.2.1) ((j9 n).2.2.2.2.1) ((j9 n).2.2.2.2.2.1) ((j9 n).2.2.2.2.2.2), c0c n ((j9 n).1) ((j9 n).2.1) ((j9 n).2.2.1) ((j9 n).2.2.2.1) ((j9 n).2.2.2.2.1) ((j9 n).2.2.2.2.2.1) ((j9 n).2.2.2.2.2.2), b9C n ((j9 n).1) ((j9 n).2.1) ((j9 n).2.2.1) ((j9 n).2.2.2.1) ((j9 n).2.2.2.2.1) ((j9 n).2.2.2.2.2.1) ((j9 n).2.2.2.2.2.2), b8Z n ((j9 n).1) ((j9 n).2.1) ((j9 n).2.2.1) ((j9 n).2.2.2.1) ((j9 n).2.2.2.2.1) ((j9 n).2.2.2.2.2.1) ((j9 n).2.2.2.2.2.2))
def c3H (n : Nat) : (List Val) -> Api_Type -> (List Int) -> Option Bool := (j9 n).1
def a9G (n : Nat) : Ent -> Api_Type -> Api_TypeNode -> Option Bool := (j9 n).2.1
def b6Q (n : Nat) : Val -> Api_Type -> Api_TypeNode -> Option Bool := (j9 n).2.2.1
def c4A (n : Nat) : Val -> Api_Type -> Int -> Option Bool := (j9 n).2.2.2.1
def c1K (n : Nat) : Int -> Val -> Api_Type -> Option Bool := (j9 n).2.2.2.2.1
def c2c (n : Nat) : Int -> Val -> Api_Type -> Option Bool := (j9 n).2.2.2.2.2.1
def c0P (n : Nat) : Val -> Api_Type -> Api_TypeNode -> Option Bool := (j9 n).2.2.2.2.2.2
def b6f (e : Ent) (t : Api_Type) (pos : List Int) (n : Nat) (x6 : Int) : Option (Fl Int (Sum Unit Bool)) :=
 bif decide (x6 < (pos.length : Int))
 then (Option.bind (idx pos x6) fun e7 =>
 Option.bind (idx t.Nodes e7) fun e8 =>
 Option.bind (bif (wr .i64 ((e8.Kids.length : Int) - 1)) != (e.Args.length : Int)
 then (some true)
 else (Option.bind (a9G n e t e8) fun r9 =>
 some (!r9))) fun q10 =>
 bif q10
 then (some (.done (.inr false)))
 else (some (.next (wr .i64 (x6 + 1)))))
 else (some (.done (.inl ())))
def a9p (n : Nat) (e : Ent) (t : Api_Type) (pos : List Int) : Option Bool :=
 Option.bind (a1b n t) fun r1 =>
 Option.bind (bif r1 != 0
 then (some true)
 else (Option.bind (a3P t pos) fun r2 =>
 some (!r2))) fun q3 =>
 Option.bind (bif q3
 then (some true)
 else (Option.bind (b0R n e) fun r4 =>
 some (!r4))) fun q5 =>
 bif q5
 then (some false)
 else (Option.bind (j5 (b6f e t pos n) ((pos.length : Int).toNat + 1) 0) fun b11 =>
 w5 (fun _ =>
 some true) (fun y13 =>
 some y13) b11)
def a2n (n : Nat) : Option Bool :=
 Option.bind (W4) fun r1 =>
 Option.bind (a2e n (Api_Type.mk ([Api_TypeNode.mk 14 0 0 (⟨#[]⟩ : ByteArray) ([1, 1] : List Int) ([] : List Api_Field) (0, 0), Api_TypeNode.mk 9 0 0 (⟨#[]⟩ : ByteArray) ([] : List Int) ([] : List Api_Field) (0, 0)] : List Api_TypeNode) 0) ([] : List Int) 0) fun r2 =>
 Option.bind (a9p n (Ent.mk ([r1] : List Val) true (Val.mk 0 0 (⟨#[]⟩ : ByteArray) ([] : List Val) ([] : List Key) ([] : List Ent) ([] : List ByteArray))) (Api_Type.mk ([Api_TypeNode.mk 14 0 0 (⟨#[]⟩ : ByteArray) ([1, 1] : List Int) ([] : List Api_Field) (0, 0), Api_TypeNode.mk 9 0 0 (⟨#[]⟩ : ByteArray) ([] : List Int) ([] : List Api_Field) (0, 0)] : List Api_TypeNode) 0) ([0] : List Int)) fun r3 =>
 Option.bind (bif !r3
 then (Option.bind (a9p n (Ent.mk ([r1] : List Val) true (Val.mk 0 0 (⟨#[]⟩ : ByteArray) ([] : List Val) ([] : List Key) ([] : List Ent) ([] : List ByteArray))) (Api_Type.mk ([Api_TypeNode.mk 14 0 0 (⟨#[]⟩ : ByteArray) ([1, 1] : List Int) ([] : List Api_Field) (0, 0), Api_TypeNode.mk 9 0 0 (⟨#[]⟩ : ByteArray) ([] : List Int) ([] : List Api_Field) (0, 0)] : List Api_TypeNode) 0) ([] : List Int)) fun r4 =>
 some r4)
 else (some false)) fun q5 =>
 Option.bind (bif q5
 then (some (r2.2 == 0))
 else (some false)) fun q6 =>
 Option.bind (bif q6
 then (some (decide (0 < (r2.1.length : Int))))
 else (some false)) fun q7 =>
 some q7
def y4 (s : Semtypebase_Source) (n_1 : Int) : Option (Int × Semtypebase_Source) :=
 Option.bind (bif decide (n_1 < 1)
 then (some true)
 else (some (decide ((s.L.length : Int) <= s.At)))) fun q1 =>
 bif q1
 then (some (0, s))
 else (Option.bind (idx s.L s.At) fun e2 =>
 Option.bind (b1y e2 n_1) fun d3 =>
 bif decide (d3 < 0)
 then (some (wr .i64 (d3 + n_1), Semtypebase_Source.mk s.L (wr .i64 (s.At + 1))))
 else (some (d3, Semtypebase_Source.mk s.L (wr .i64 (s.At + 1)))))
def K5 (s : Semtypebase_Source) : Option (ByteArray × Semtypebase_Source) :=
 Option.bind (y4 s 4) fun r1 =>
 Option.bind (idx ([(⟨#[97]⟩ : ByteArray), (⟨#[98]⟩ : ByteArray), (⟨#[111, 107]⟩ : ByteArray), (⟨#[101, 114, 114, 111, 114]⟩ : ByteArray)] : List ByteArray) r1.1) fun _ =>
 Option.bind (([(⟨#[97]⟩ : ByteArray), (⟨#[98]⟩ : ByteArray), (⟨#[111, 107]⟩ : ByteArray), (⟨#[101, 114, 114, 111, 114]⟩ : ByteArray)] : List ByteArray)[r1.1.toNat]?) fun e3 =>
 some (e3, r1.2)
def X1 (s : Semtypebase_Source) : Option (ByteArray × Semtypebase_Source) :=
 Option.bind (y4 s 4) fun r1 =>
 Option.bind (idx ([(⟨#[]⟩ : ByteArray), (⟨#[115]⟩ : ByteArray), (⟨#[120, 32, 121]⟩ : ByteArray), (⟨#[97]⟩ : ByteArray)] : List ByteArray) r1.1) fun _ =>
 Option.bind (([(⟨#[]⟩ : ByteArray), (⟨#[115]⟩ : ByteArray), (⟨#[120, 32, 121]⟩ : ByteArray), (⟨#[97]⟩ : ByteArray)] : List ByteArray)[r1.1.toNat]?) fun e3 =>
 some (e3, r1.2)
def a0g (s : Semtypebase_Source) : Option (ByteArray × Semtypebase_Source) :=
 Option.bind (y4 s 3) fun r1 =>
 Option.bind (idx ([(⟨#[65]⟩ : ByteArray), (⟨#[66]⟩ : ByteArray), (⟨#[67]⟩ : ByteArray)] : List ByteArray) r1.1) fun _ =>
 Option.bind (([(⟨#[65]⟩ : ByteArray), (⟨#[66]⟩ : ByteArray), (⟨#[67]⟩ : ByteArray)] : List ByteArray)[r1.1.toNat]?) fun e3 =>
 some (e3, r1.2)
def a0N (from_ : Int) (n_3 : Int) (x1 : Int × (List Int) × Semtypebase_Source) : Option (Fl (Int × (List Int) × Semtypebase_Source) ((List Int) × Semtypebase_Source)) :=
 bif decide (0 < x1.1)
 then (Option.bind (y4 x1.2.2 (wr .i64 (n_3 - from_))) fun r2 =>
 Option.bind (Z5 (x1.2.1.length + ([wr .i64 (from_ + r2.1)] : List Int).length) 8) fun _ =>
 some (.next (wr .i64 (x1.1 - 1), x1.2.1 ++ ([wr .i64 (from_ + r2.1)] : List Int), r2.2)))
 else (some (.done (x1.2.1, x1.2.2)))
def k9 (s : Semtypebase_Source) (many : Int) (from_ : Int) (n_3 : Int) : Option ((List Int) × Semtypebase_Source) :=
 Option.bind (j5 (a0N from_ n_3) (many.toNat + 2) (many, [], s)) fun b4 =>
 some (b4.1, b4.2)
def V7 (n_1 : Int) (x3 : Int × Semtypebase_Source × (Int × Int × Int × ByteArray × (List Int) × (List Api_Field) × Int × Int)) : Option (Fl (Int × Semtypebase_Source × (Int × Int × Int × ByteArray × (List Int) × (List Api_Field) × Int × Int)) (Semtypebase_Source × (Int × Int × Int × ByteArray × (List Int) × (List Api_Field) × Int × Int))) :=
 bif decide (x3.1 < 3)
 then (Option.bind (Option.bind (y4 x3.2.1 2) fun r4 =>
 bif r4.1 == 1
 then (Option.bind (idx ([Key.mk 0 (⟨#[97]⟩ : ByteArray), Key.mk 0 (⟨#[98]⟩ : ByteArray), Key.mk 1 (⟨#[115]⟩ : ByteArray)] : List Key) x3.1) fun e5 =>
 Option.bind (y4 r4.2 n_1) fun r6 =>
 Option.bind (y4 r6.2 2) fun r7 =>
 Option.bind (Z5 (x3.2.2.2.2.2.2.2.1.length + ([Api_Field.mk e5 r6.1 (r7.1 == 1)] : List Api_Field).length) 40) fun _ =>
 some (r7.2, (x3.2.2.1, x3.2.2.2.1, x3.2.2.2.2.1, x3.2.2.2.2.2.1, x3.2.2.2.2.2.2.1, x3.2.2.2.2.2.2.2.1 ++ ([Api_Field.mk e5 r6.1 (r7.1 == 1)] : List Api_Field), x3.2.2.2.2.2.2.2.2.1, x3.2.2.2.2.2.2.2.2.2)))
 else (some (r4.2, (x3.2.2.1, x3.2.2.2.1, x3.2.2.2.2.1, x3.2.2.2.2.2.1, x3.2.2.2.2.2.2.1, x3.2.2.2.2.2.2.2.1, x3.2.2.2.2.2.2.2.2.1, x3.2.2.2.2.2.2.2.2.2)))) fun b9 =>
 some (.next (wr .i64 (x3.1 + 1), b9.1, (b9.2.1, b9.2.2.1, b9.2.2.2.1, b9.2.2.2.2.1, b9.2.2.2.2.2.1, b9.2.2.2.2.2.2.1, b9.2.2.2.2.2.2.2.1, b9.2.2.2.2.2.2.2.2))))
 else (some (.done (x3.2.1, (x3.2.2.1, x3.2.2.2.1, x3.2.2.2.2.1, x3.2.2.2.2.2.1, x3.2.2.2.2.2.2.1, x3.2.2.2.2.2.2.2.1, x3.2.2.2.2.2.2.2.2.1, x3.2.2.2.2.2.2.2.2.2))))
def a1h (s : Semtypebase_Source) (n_1 : Int) : Option (Api_TypeNode × Semtypebase_Source) :=
 Option.bind (y4 s n_1) fun r1 =>
 Option.bind (y4 r1.2 n_1) fun r2 =>
 Option.bind (j5 (V7 n_1) ((3 : Int).toNat + 1) (0, r2.2, (13, 0, 0, (⟨#[]⟩ : ByteArray), [], [], r1.1, r2.1))) fun b10 =>
 some (Api_TypeNode.mk b10.2.1 b10.2.2.1 b10.2.2.2.1 b10.2.2.2.2.1 b10.2.2.2.2.2.1 b10.2.2.2.2.2.2.1 (b10.2.2.2.2.2.2.2.1, b10.2.2.2.2.2.2.2.2), b10.1)
def a1Z (d : Semtypebase_Source) (t : Int) (a2_2 : Int) : Option (Api_TypeNode × Semtypebase_Source) :=
 Option.bind (bif t == (wr .i64 (a2_2 - 1))
 then (some 14)
 else (some 18)) fun b1 =>
 Option.bind (y4 d b1) fun r2 =>
 bif r2.1 == 0
 then (Option.bind (y4 r2.2 5) fun r3 =>
 Option.bind (idx ([(-9223372036854775808), 0, 1, 2, 9223372036854775807] : List Int) r3.1) fun _ =>
 Option.bind (([(-9223372036854775808), 0, 1, 2, 9223372036854775807] : List Int)[r3.1.toNat]?) fun e5 =>
 Option.bind (y4 r3.2 (wr .i64 (5 - r3.1))) fun r6 =>
 Option.bind (idx ([(-9223372036854775808), 0, 1, 2, 9223372036854775807] : List Int) (wr .i64 (r3.1 + r6.1))) fun _ =>
 Option.bind (([(-9223372036854775808), 0, 1, 2, 9223372036854775807] : List Int)[(wr .i64 (r3.1 + r6.1)).toNat]?) fun e8 =>
 some (Api_TypeNode.mk 3 e5 e8 (⟨#[]⟩ : ByteArray) ([] : List Int) ([] : List Api_Field) (0, 0), r6.2))
 else (bif r2.1 == 1
 then (Option.bind (K5 r2.2) fun r9 =>
 some (Api_TypeNode.mk 6 0 0 r9.1 ([] : List Int) ([] : List Api_Field) (0, 0), r9.2))
 else (bif r2.1 == 2
 then (some (Api_TypeNode.mk 7 0 0 (⟨#[]⟩ : ByteArray) ([] : List Int) ([] : List Api_Field) (0, 0), r2.2))
 else (bif r2.1 == 3
 then (Option.bind (X1 r2.2) fun r10 =>
 some (Api_TypeNode.mk 4 0 0 r10.1 ([] : List Int) ([] : List Api_Field) (0, 0), r10.2))
 else (bif r2.1 == 4
 then (Option.bind (y4 r2.2 4) fun r11 =>
 Option.bind (idx ([5, 8, 11, 15] : List Int) r11.1) fun _ =>
 Option.bind (([5, 8, 11, 15] : List Int)[r11.1.toNat]?) fun e13 =>
 some (Api_TypeNode.mk e13 0 0 (⟨#[]⟩ : ByteArray) ([] : List Int) ([] : List Api_Field) (0, 0), r11.2))
 else (bif r2.1 == 5
 then (some (Api_TypeNode.mk 9 0 0 (⟨#[]⟩ : ByteArray) ([] : List Int) ([] : List Api_Field) (0, 0), r2.2))
 else (bif r2.1 == 6
 then (Option.bind (y4 r2.2 2) fun r14 =>
 Option.bind (idx ([2, 1] : List Int) r14.1) fun _ =>
 Option.bind (([2, 1] : List Int)[r14.1.toNat]?) fun e16 =>
 some (Api_TypeNode.mk e16 0 0 (⟨#[]⟩ : ByteArray) ([] : List Int) ([] : List Api_Field) (0, 0), r14.2))
 else (bif r2.1 == 7
 then (Option.bind (a0g r2.2) fun r17 =>
 some (Api_TypeNode.mk 19 0 0 r17.1 ([] : List Int) ([] : List Api_Field) (0, 0), r17.2))
 else (Option.bind (bif r2.1 == 8
 then (some (r2.1 == 8))
 else (some (r2.1 == 9))) fun b18 =>
 bif b18
 then (Option.bind (y4 r2.2 3) fun r19 =>
 Option.bind (k9 r19.2 r19.1 0 a2_2) fun r20 =>
 some (Api_TypeNode.mk 10 0 0 (⟨#[]⟩ : ByteArray) r20.1 ([] : List Api_Field) (0, 0), r20.2))
 else (bif r2.1 == 10
 then (Option.bind (k9 r2.2 2 0 a2_2) fun r21 =>
 some (Api_TypeNode.mk 12 0 0 (⟨#[]⟩ : ByteArray) r21.1 ([] : List Api_Field) (0, 0), r21.2))
 else (bif r2.1 == 11
 then (Option.bind (a1h r2.2 a2_2) fun r22 =>
 some (r22.1, r22.2))
 else (Option.bind (bif r2.1 == 12
 then (some (r2.1 == 12))
 else (some (r2.1 == 13))) fun b23 =>
 bif b23
 then (Option.bind (y4 r2.2 3) fun r24 =>
 Option.bind (k9 r24.2 (wr .i64 (1 + r24.1)) 0 a2_2) fun r25 =>
 some (Api_TypeNode.mk 14 0 0 (⟨#[]⟩ : ByteArray) r25.1 ([] : List Api_Field) (0, 0), r25.2))
 else (bif r2.1 == 14
 then (Option.bind (k9 r2.2 1 (wr .i64 (t + 1)) a2_2) fun r26 =>
 some (Api_TypeNode.mk 18 0 0 (⟨#[]⟩ : ByteArray) r26.1 ([] : List Api_Field) (0, 0), r26.2))
 else (bif r2.1 == 15
 then (Option.bind (k9 r2.2 2 (wr .i64 (t + 1)) a2_2) fun r27 =>
 some (Api_TypeNode.mk 17 0 0 (⟨#[]⟩ : ByteArray) r27.1 ([] : List Api_Field) (0, 0), r27.2))
 else (Option.bind (y4 r2.2 2) fun r28 =>
 Option.bind (k9 r28.2 (wr .i64 (2 + r28.1)) (wr .i64 (t + 1)) a2_2) fun r29 =>
 some (Api_TypeNode.mk 16 0 0 (⟨#[]⟩ : ByteArray) r29.1 ([] : List Api_Field) (0, 0), r29.2)))))))))))))))
def a0x (n_1 : Int) (x1 : Int × Semtypebase_Source × ((List Api_TypeNode) × Int)) : Option (Fl (Int × Semtypebase_Source × ((List Api_TypeNode) × Int)) (Semtypebase_Source × ((List Api_TypeNode) × Int))) :=
 bif decide (x1.1 < (max n_1 1))
 then (Option.bind (a1Z x1.2.1 x1.1 (max n_1 1)) fun r2 =>
 Option.bind (Z5 (x1.2.2.1.length + ([r2.1] : List Api_TypeNode).length) 104) fun _ =>
 some (.next (wr .i64 (x1.1 + 1), r2.2, (x1.2.2.1 ++ ([r2.1] : List Api_TypeNode), x1.2.2.2))))
 else (some (.done (x1.2.1, (x1.2.2.1, x1.2.2.2))))
def a0q (s : Semtypebase_Source) (n_1 : Int) : Option (((List Api_TypeNode) × Int) × Semtypebase_Source) :=
 Option.bind (j5 (a0x n_1) ((max n_1 1).toNat + 1) (0, s, ([], 0))) fun b4 =>
 some ((b4.2.1, b4.2.2), b4.1)
def a1v (s : Semtypebase_Source) : Option (Int × Semtypebase_Source) :=
 Option.bind (y4 s 10) fun r1 =>
 Option.bind (idx ([0, 1, (-1), 2, 3, (-2), 7, (-9223372036854775808), 9223372036854775807, 10] : List Int) r1.1) fun _ =>
 Option.bind (([0, 1, (-1), 2, 3, (-2), 7, (-9223372036854775808), 9223372036854775807, 10] : List Int)[r1.1.toNat]?) fun e3 =>
 some (e3, r1.2)
def a7L (n_0 : Int) : Option Val :=
 some (Val.mk 1 n_0 (⟨#[]⟩ : ByteArray) ([] : List Val) ([] : List Key) ([] : List Ent) ([] : List ByteArray))
def a4W (s : ByteArray) : Option Val :=
 some (Val.mk 3 0 s ([] : List Val) ([] : List Key) ([] : List Ent) ([] : List ByteArray))
def a3M (s : ByteArray) : Option Val :=
 some (Val.mk 2 0 s ([] : List Val) ([] : List Key) ([] : List Ent) ([] : List ByteArray))
def a7O (n_0 : Int) : Option Val :=
 some (Val.mk 4 n_0 (⟨#[]⟩ : ByteArray) ([] : List Val) ([] : List Key) ([] : List Ent) ([] : List ByteArray))
def a0S (l : List Val) : Option (List Val) :=
 Option.bind (Z5 (0 + l.length) 128) fun _ =>
 some l
def a2O (l : List Val) : Option Val :=
 Option.bind (a0S l) fun r1 =>
 some (Val.mk 6 0 (⟨#[]⟩ : ByteArray) r1 ([] : List Key) ([] : List Ent) ([] : List ByteArray))
def J9 (s : Semtypebase_Source) : Option (Val × Semtypebase_Source) :=
 Option.bind (y4 s 6) fun r1 =>
 bif r1.1 == 0
 then (Option.bind (a1v r1.2) fun r2 =>
 Option.bind (a7L r2.1) fun r3 =>
 some (r3, r2.2))
 else (bif r1.1 == 1
 then (Option.bind (K5 r1.2) fun r4 =>
 Option.bind (a4W r4.1) fun r5 =>
 some (r5, r4.2))
 else (bif r1.1 == 2
 then (Option.bind (X1 r1.2) fun r6 =>
 Option.bind (a3M r6.1) fun r7 =>
 some (r7, r6.2))
 else (bif r1.1 == 3
 then (Option.bind (y4 r1.2 3) fun r8 =>
 Option.bind (a7O r8.1) fun r9 =>
 some (r9, r8.2))
 else (bif r1.1 == 4
 then (Option.bind (W4) fun r10 =>
 some (r10, r1.2))
 else (Option.bind (a2O ([] : List Val)) fun r11 =>
 some (r11, r1.2))))))
def a1N (c : Int) : Option Bool :=
 Option.bind (bif decide (97 <= c)
 then (some (decide (c <= 122)))
 else (some false)) fun q1 =>
 some q1
def a2K (c : Int) : Option Bool :=
 Option.bind (bif decide (48 <= c)
 then (some (decide (c <= 57)))
 else (some false)) fun q1 =>
 some q1
def a4A (s : ByteArray) (x5 : Int) : Option (Fl Int (Sum Unit Bool)) :=
 bif decide (x5 < (s.size : Int))
 then (Option.bind (a4P s x5) fun e6 =>
 Option.bind (a1N (e6.toNat : Int)) fun r7 =>
 Option.bind (bif !r7
 then (Option.bind (a4P s x5) fun e8 =>
 Option.bind (a2K (e8.toNat : Int)) fun r9 =>
 some (!r9))
 else (some false)) fun q10 =>
 Option.bind (bif q10
 then (Option.bind (a4P s x5) fun e11 =>
 some ((e11.toNat : Int) != 95))
 else (some false)) fun q12 =>
 bif q12
 then (some (.done (.inr false)))
 else (some (.next (wr .i64 (x5 + 1)))))
 else (some (.done (.inl ())))
def a1r (s : ByteArray) : Option Bool :=
 Option.bind (bif decide ((s.size : Int) < 1)
 then (some true)
 else (some (decide (16 < (s.size : Int))))) fun q1 =>
 Option.bind (bif q1
 then (some true)
 else (Option.bind (a4P s 0) fun e2 =>
 Option.bind (a1N (e2.toNat : Int)) fun r3 =>
 some (!r3))) fun q4 =>
 bif q4
 then (some false)
 else (Option.bind (j5 (a4A s) ((s.size : Int).toNat + 1) 1) fun b13 =>
 w5 (fun _ =>
 some true) (fun y15 =>
 some y15) b13)
def a0V (k : Key) : Option Bool :=
 Option.bind (bif k.Kind == 0
 then (Option.bind (a1r k.Text) fun r1 =>
 some r1)
 else (some false)) fun q2 =>
 Option.bind (bif q2
 then (some true)
 else (Option.bind (bif k.Kind == 1
 then (some (decide ((k.Text.size : Int) <= 64)))
 else (some false)) fun q3 =>
 some q3)) fun q4 =>
 some q4
def a1Q (a : Int) (b : Int) : Option Int :=
 bif decide (a < b)
 then (some (-1))
 else (bif decide (b < a)
 then (some 1)
 else (some 0))
def a0R (a : ByteArray) (b : ByteArray) : Option Int :=
 bif a1V a b
 then (some (-1))
 else (bif !(a1V a b || V3 a b)
 then (some 1)
 else (some 0))
def V1 (a : Key) (b : Key) : Option Int :=
 bif a.Kind != b.Kind
 then (Option.bind (a1Q a.Kind b.Kind) fun r1 =>
 some r1)
 else (Option.bind (a0R a.Text b.Text) fun r2 =>
 some r2)
def a1p (d : List Key) (x1 : Int × (Int × Int × ByteArray × (List Val) × (List Key) × (List Ent) × (List ByteArray))) : Option (Fl (Int × (Int × Int × ByteArray × (List Val) × (List Key) × (List Ent) × (List ByteArray))) (Sum (Int × Int × ByteArray × (List Val) × (List Key) × (List Ent) × (List ByteArray)) (Int × (Int × Int × ByteArray × (List Val) × (List Key) × (List Ent) × (List ByteArray))))) :=
 bif decide (x1.1 < (d.length : Int))
 then (Option.bind (idx d x1.1) fun e2 =>
 Option.bind (a0V e2) fun r3 =>
 bif !r3
 then (some (.done (.inr (1, (0, 0, (⟨#[]⟩ : ByteArray), [], [], [], [])))))
 else (some (.next (wr .i64 (x1.1 + 1), (x1.2.1, x1.2.2.1, x1.2.2.2.1, x1.2.2.2.2.1, x1.2.2.2.2.2.1, x1.2.2.2.2.2.2.1, x1.2.2.2.2.2.2.2)))))
 else (some (.done (.inl (x1.2.1, x1.2.2.1, x1.2.2.2.1, x1.2.2.2.2.1, x1.2.2.2.2.2.1, x1.2.2.2.2.2.2.1, x1.2.2.2.2.2.2.2))))
def a3W (d : List Key) (x7 : Int × (Int × Int × ByteArray × (List Val) × (List Key) × (List Ent) × (List ByteArray)) × (Int × Int × ByteArray × (List Val) × (List Key) × (List Ent) × (List ByteArray))) (x8 : Int) : Option (Fl Int Int) :=
 Option.bind (bif decide (x8 < (x7.2.2.2.2.2.2.1.length : Int))
 then (Option.bind (idx x7.2.2.2.2.2.2.1 x8) fun e9 =>
 Option.bind (idx d x7.1) fun e10 =>
 Option.bind (V1 e9 e10) fun r11 =>
 some (decide (r11 < 0)))
 else (some false)) fun q12 =>
 bif q12
 then (some (.next (wr .i64 (x8 + 1))))
 else (some (.done x8))
def a0O (d : List Key) (t : List Val) (x7 : Int × (Int × Int × ByteArray × (List Val) × (List Key) × (List Ent) × (List ByteArray)) × (Int × Int × ByteArray × (List Val) × (List Key) × (List Ent) × (List ByteArray))) : Option (Fl (Int × (Int × Int × ByteArray × (List Val) × (List Key) × (List Ent) × (List ByteArray)) × (Int × Int × ByteArray × (List Val) × (List Key) × (List Ent) × (List ByteArray))) (Sum ((Int × Int × ByteArray × (List Val) × (List Key) × (List Ent) × (List ByteArray)) × (Int × Int × ByteArray × (List Val) × (List Key) × (List Ent) × (List ByteArray))) (Int × (Int × Int × ByteArray × (List Val) × (List Key) × (List Ent) × (List ByteArray)) × (Int × Int × ByteArray × (List Val) × (List Key) × (List Ent) × (List ByteArray))))) :=
 bif decide (x7.1 < (d.length : Int))
 then (Option.bind (j5 (a3W d x7) ((x7.2.2.2.2.2.2.1.length : Int).toNat + 1) 0) fun b13 =>
 Option.bind (bif decide (b13 < (x7.2.2.2.2.2.2.1.length : Int))
 then (Option.bind (idx x7.2.2.2.2.2.2.1 b13) fun e14 =>
 Option.bind (idx d x7.1) fun e15 =>
 some (a7b e14 e15))
 else (some false)) fun q16 =>
 bif q16
 then (some (.done (.inr (6, (0, 0, (⟨#[]⟩ : ByteArray), [], [], [], []), (x7.2.2.1, x7.2.2.2.1, x7.2.2.2.2.1, x7.2.2.2.2.2.1, x7.2.2.2.2.2.2.1, x7.2.2.2.2.2.2.2.1, x7.2.2.2.2.2.2.2.2)))))
 else (Option.bind (cut x7.2.2.2.2.2.2.1 0 b13) fun y17 =>
 Option.bind (Z5 (0 + y17.length) 24) fun _ =>
 Option.bind (cut x7.2.2.2.2.2.1 0 b13) fun y19 =>
 Option.bind (a0S y19) fun r20 =>
 Option.bind (idx d x7.1) fun e21 =>
 Option.bind (Z5 (y17.length + ([e21] : List Key).length) 24) fun _ =>
 Option.bind (cut x7.2.2.2.2.2.2.1 b13 (x7.2.2.2.2.2.2.1.length : Int)) fun y23 =>
 Option.bind (Z5 ((y17 ++ ([e21] : List Key)).length + y23.length) 24) fun _ =>
 Option.bind (idx t x7.1) fun e25 =>
 Option.bind (Z5 (r20.length + ([e25] : List Val).length) 128) fun _ =>
 Option.bind (cut x7.2.2.2.2.2.1 b13 (x7.2.2.2.2.2.1.length : Int)) fun y27 =>
 Option.bind (Z5 ((r20 ++ ([e25] : List Val)).length + y27.length) 128) fun _ =>
 some (.next (wr .i64 (x7.1 + 1), (x7.2.1.1, x7.2.1.2.1, x7.2.1.2.2.1, x7.2.1.2.2.2.1, x7.2.1.2.2.2.2.1, x7.2.1.2.2.2.2.2.1, x7.2.1.2.2.2.2.2.2), (x7.2.2.1, x7.2.2.2.1, x7.2.2.2.2.1, (r20 ++ ([e25] : List Val)) ++ y27, (y17 ++ ([e21] : List Key)) ++ y23, x7.2.2.2.2.2.2.2.1, x7.2.2.2.2.2.2.2.2)))))
 else (some (.done (.inl ((x7.2.1.1, x7.2.1.2.1, x7.2.1.2.2.1, x7.2.1.2.2.2.1, x7.2.1.2.2.2.2.1, x7.2.1.2.2.2.2.2.1, x7.2.1.2.2.2.2.2.2), (x7.2.2.1, x7.2.2.2.1, x7.2.2.2.2.1, x7.2.2.2.2.2.1, x7.2.2.2.2.2.2.1, x7.2.2.2.2.2.2.2.1, x7.2.2.2.2.2.2.2.2)))))
def a1A (d : List Key) (t : List Val) : Option (Val × Int) :=
 bif (d.length : Int) != (t.length : Int)
 then (some (Val.mk 0 0 (⟨#[]⟩ : ByteArray) ([] : List Val) ([] : List Key) ([] : List Ent) ([] : List ByteArray), 1))
 else (Option.bind (j5 (a1p d) ((d.length : Int).toNat + 1) (0, (0, 0, (⟨#[]⟩ : ByteArray), [], [], [], []))) fun (b4 : Sum (Int × Int × ByteArray × (List Val) × (List Key) × (List Ent) × (List ByteArray)) (Int × (Int × Int × ByteArray × (List Val) × (List Key) × (List Ent) × (List ByteArray)))) =>
 w5 (fun x5 =>
 Option.bind (j5 (a0O d t) ((d.length : Int).toNat + 1) (0, (x5.1, x5.2.1, x5.2.2.1, x5.2.2.2.1, x5.2.2.2.2.1, x5.2.2.2.2.2.1, x5.2.2.2.2.2.2), (8, 0, (⟨#[]⟩ : ByteArray), ([] : List Val), ([] : List Key), [], []))) fun (b29 : Sum ((Int × Int × ByteArray × (List Val) × (List Key) × (List Ent) × (List ByteArray)) × (Int × Int × ByteArray × (List Val) × (List Key) × (List Ent) × (List ByteArray))) (Int × (Int × Int × ByteArray × (List Val) × (List Key) × (List Ent) × (List ByteArray)) × (Int × Int × ByteArray × (List Val) × (List Key) × (List Ent) × (List ByteArray)))) =>
 w5 (fun x30 =>
 some (Val.mk x30.2.1 x30.2.2.1 x30.2.2.2.1 x30.2.2.2.2.1 x30.2.2.2.2.2.1 x30.2.2.2.2.2.2.1 x30.2.2.2.2.2.2.2, 0)) (fun y31 =>
 some (Val.mk y31.2.1.1 y31.2.1.2.1 y31.2.1.2.2.1 y31.2.1.2.2.2.1 y31.2.1.2.2.2.2.1 y31.2.1.2.2.2.2.2.1 y31.2.1.2.2.2.2.2.2, y31.1)) b29) (fun y6 =>
 some (Val.mk y6.2.1 y6.2.2.1 y6.2.2.2.1 y6.2.2.2.2.1 y6.2.2.2.2.2.1 y6.2.2.2.2.2.2.1 y6.2.2.2.2.2.2.2, y6.1)) b4)
def a0c (a : Int) (b : Int) : Option Int :=
 Option.bind (a1Q a b) fun r1 =>
 some r1
def a6C (d : Val) (t : Val) (x5 : Int) : Option (Fl Int (Sum Unit Int)) :=
 bif decide (x5 < (d.Keys.length : Int))
 then (Option.bind (idx d.Keys x5) fun e6 =>
 Option.bind (idx t.Keys x5) fun e7 =>
 Option.bind (V1 e6 e7) fun r8 =>
 bif r8 != 0
 then (some (.done (.inr r8)))
 else (some (.next (wr .i64 (x5 + 1)))))
 else (some (.done (.inl ())))
def a6x (d : Val) (t : Val) (rec_semtyperef1_CompareEntries : Ent -> Ent -> Option Int) (x14 : Int) : Option (Fl Int (Sum Unit Int)) :=
 bif decide (x14 < (d.Entries.length : Int))
 then (Option.bind (idx d.Entries x14) fun e15 =>
 Option.bind (idx t.Entries x14) fun e16 =>
 Option.bind (rec_semtyperef1_CompareEntries e15 e16) fun r17 =>
 bif r17 != 0
 then (some (.done (.inr r17)))
 else (some (.next (wr .i64 (x14 + 1)))))
 else (some (.done (.inl ())))
def a6J (d : Val) (t : Val) (x22 : Int) : Option (Fl Int (Sum Unit Int)) :=
 bif decide (x22 < (d.Labels.length : Int))
 then (Option.bind (idx d.Labels x22) fun e23 =>
 Option.bind (idx t.Labels x22) fun e24 =>
 Option.bind (a0R e23 e24) fun r25 =>
 bif r25 != 0
 then (some (.done (.inr r25)))
 else (some (.next (wr .i64 (x22 + 1)))))
 else (some (.done (.inl ())))
def a7m (a : List Val) (b : List Val) (rec_semtyperef1_Compare : Val -> Val -> Option Int) (x2 : Int) : Option (Fl Int (Sum Unit Int)) :=
 bif decide (x2 < (a.length : Int))
 then (Option.bind (idx a x2) fun e3 =>
 Option.bind (idx b x2) fun e4 =>
 Option.bind (rec_semtyperef1_Compare e3 e4) fun r5 =>
 bif r5 != 0
 then (some (.done (.inr r5)))
 else (some (.next (wr .i64 (x2 + 1)))))
 else (some (.done (.inl ())))
def a4D (_ : Nat) (_ : Val -> Val -> Option Int) (rec_semtyperef1_values : (List Val) -> (List Val) -> Option Int) (rec_semtyperef1_CompareEntries : Ent -> Ent -> Option Int) (d : Val) (t : Val) : Option Int :=
 bif d.Kind != t.Kind
 then (Option.bind (a0c d.Kind t.Kind) fun r1 =>
 some r1)
 else (bif d.Int_ != t.Int_
 then (Option.bind (a1Q d.Int_ t.Int_) fun r2 =>
 some r2)
 else (bif !(V3 d.Text t.Text)
 then (Option.bind (a0R d.Text t.Text) fun r3 =>
 some r3)
 else (bif (d.Keys.length : Int) != (t.Keys.length : Int)
 then (Option.bind (a0c (d.Keys.length : Int) (t.Keys.length : Int)) fun r4 =>
 some r4)
 else (Option.bind (j5 (a6C d t) ((d.Keys.length : Int).toNat + 1) 0) fun b9 =>
 w5 (fun _ =>
 Option.bind (rec_semtyperef1_values d.Kids t.Kids) fun r12 =>
 bif r12 != 0
 then (some r12)
 else (bif (d.Entries.length : Int) != (t.Entries.length : Int)
 then (Option.bind (a0c (d.Entries.length : Int) (t.Entries.length : Int)) fun r13 =>
 some r13)
 else (Option.bind (j5 (a6x d t rec_semtyperef1_CompareEntries) ((d.Entries.length : Int).toNat + 1) 0) fun b18 =>
 w5 (fun _ =>
 bif (d.Labels.length : Int) != (t.Labels.length : Int)
 then (Option.bind (a0c (d.Labels.length : Int) (t.Labels.length : Int)) fun r21 =>
 some r21)
 else (Option.bind (j5 (a6J d t) ((d.Labels.length : Int).toNat + 1) 0) fun b26 =>
 w5 (fun _ =>
 some 0) (fun y28 =>
 some y28) b26)) (fun y20 =>
 some y20) b18))) (fun y11 =>
 some y11) b9))))
def a4O (_ : Nat) (rec_semtyperef1_Compare : Val -> Val -> Option Int) (_ : (List Val) -> (List Val) -> Option Int) (_ : Ent -> Ent -> Option Int) (a : List Val) (b : List Val) : Option Int :=
 bif (a.length : Int) != (b.length : Int)
 then (Option.bind (a0c (a.length : Int) (b.length : Int)) fun r1 =>
 some r1)
 else (Option.bind (j5 (a7m a b rec_semtyperef1_Compare) ((a.length : Int).toNat + 1) 0) fun b6 =>
 w5 (fun _ =>
 some 0) (fun y8 =>
 some y8) b6)
def a18 (_ : Nat) (rec_semtyperef1_Compare : Val -> Val -> Option Int) (rec_semtyperef1_values : (List Val) -> (List Val) -> Option Int) (_ : Ent -> Ent -> Option Int) (a : Ent) (b : Ent) : Option Int :=
 Option.bind (rec_semtyperef1_values a.Args b.Args) fun r1 =>
 bif r1 != 0
 then (some r1)
 else (bif a.Fails != b.Fails
 then (bif a.Fails
 then (some (-1))
 else (some 1))
 else (Option.bind (rec_semtyperef1_Compare a.Result b.Result) fun r2 =>
 some r2))
def Y6 : Nat -> (Val -> Val -> Option Int) × ((List Val) -> (List Val) -> Option Int) × (Ent -> Ent -> Option Int)
 | 0 => (fun _ _ => none, fun _ _ => none, fun _ _ => none)
 | n + 1 => (a4D n ((Y6 n).1) ((Y6 n).2.1) ((Y6 n).2.2), a4O n ((Y6 n).1) ((Y6 n).2.1) ((Y6 n).2.2), a18 n ((Y6 n).1) ((Y6 n).2.1) ((Y6 n).2.2))
def a0a (n : Nat) : Val -> Val -> Option Int := (Y6 n).1
def a2p (n : Nat) : (List Val) -> (List Val) -> Option Int := (Y6 n).2.1
def Z4 (n : Nat) : Ent -> Ent -> Option Int := (Y6 n).2.2
def a2M (n : Nat) (a : Val) (b : Val) : Option Bool :=
 Option.bind (a0a n a b) fun r1 =>
 some (r1 == 0)
def a2d (l : List Ent) (x1 : (List Ent) × Int) (n : Nat) (x2 : Int) : Option (Fl Int Int) :=
 Option.bind (bif decide (x2 < (x1.1.length : Int))
 then (Option.bind (idx x1.1 x2) fun e3 =>
 Option.bind (idx l x1.2) fun _ =>
 Option.bind (l[x1.2.toNat]?) fun e5 =>
 Option.bind (Z4 n e3 e5) fun r6 =>
 some (decide (r6 < 0)))
 else (some false)) fun q7 =>
 bif q7
 then (some (.next (wr .i64 (x2 + 1))))
 else (some (.done x2))
def X5 (l : List Ent) (n : Nat) (x1 : (List Ent) × Int) : Option (Fl ((List Ent) × Int) (List Ent)) :=
 bif decide (x1.2 < (l.length : Int))
 then (Option.bind (Option.bind (j5 (a2d l x1 n) ((x1.1.length : Int).toNat + 1) 0) fun b8 =>
 Option.bind (bif decide (b8 < (x1.1.length : Int))
 then (Option.bind (idx x1.1 b8) fun e9 =>
 Option.bind (idx l x1.2) fun _ =>
 Option.bind (l[x1.2.toNat]?) fun e11 =>
 Option.bind (Z4 n e9 e11) fun r12 =>
 some (r12 == 0))
 else (some false)) fun q13 =>
 bif q13
 then (some x1.1)
 else (Option.bind (cut x1.1 0 b8) fun y14 =>
 Option.bind (Z5 (0 + y14.length) 160) fun _ =>
 Option.bind (idx l x1.2) fun _ =>
 Option.bind (l[x1.2.toNat]?) fun e17 =>
 Option.bind (Z5 (y14.length + ([e17] : List Ent).length) 160) fun _ =>
 Option.bind (cut x1.1 b8 (x1.1.length : Int)) fun y19 =>
 Option.bind (Z5 ((y14 ++ ([e17] : List Ent)).length + y19.length) 160) fun _ =>
 some ((y14 ++ ([e17] : List Ent)) ++ y19))) fun b21 =>
 some (.next (b21, wr .i64 (x1.2 + 1))))
 else (some (.done x1.1))
def a3t (n : Nat) (l : List Ent) : Option (List Ent) :=
 Option.bind (j5 (X5 l n) ((l.length : Int).toNat + 1) (([] : List Ent), 0)) fun b22 =>
 some b22
def a0p (arity : Int) (l : List Ent) (n : Nat) (x2 : Int × (Int × Int × ByteArray × (List Val) × (List Key) × (List Ent) × (List ByteArray))) : Option (Fl (Int × (Int × Int × ByteArray × (List Val) × (List Key) × (List Ent) × (List ByteArray))) (Sum (Int × Int × ByteArray × (List Val) × (List Key) × (List Ent) × (List ByteArray)) (Int × (Int × Int × ByteArray × (List Val) × (List Key) × (List Ent) × (List ByteArray))))) :=
 bif decide (x2.1 < (l.length : Int))
 then (Option.bind (idx l x2.1) fun _ =>
 Option.bind (l[x2.1.toNat]?) fun e4 =>
 Option.bind (bif (e4.Args.length : Int) != arity
 then (some true)
 else (Option.bind (idx l x2.1) fun _ =>
 Option.bind (l[x2.1.toNat]?) fun e6 =>
 Option.bind (bif e6.Fails
 then (Option.bind (idx l x2.1) fun _ =>
 Option.bind (l[x2.1.toNat]?) fun e8 =>
 Option.bind (a2M n e8.Result (Val.mk 0 0 (⟨#[]⟩ : ByteArray) ([] : List Val) ([] : List Key) ([] : List Ent) ([] : List ByteArray))) fun r9 =>
 some (!r9))
 else (some false)) fun q10 =>
 some q10)) fun q11 =>
 bif q11
 then (some (.done (.inr (1, (0, 0, (⟨#[]⟩ : ByteArray), [], [], [], [])))))
 else (some (.next (wr .i64 (x2.1 + 1), (x2.2.1, x2.2.2.1, x2.2.2.2.1, x2.2.2.2.2.1, x2.2.2.2.2.2.1, x2.2.2.2.2.2.2.1, x2.2.2.2.2.2.2.2)))))
 else (some (.done (.inl (x2.2.1, x2.2.2.1, x2.2.2.2.1, x2.2.2.2.2.1, x2.2.2.2.2.2.1, x2.2.2.2.2.2.2.1, x2.2.2.2.2.2.2.2))))
def a1K (n : Nat) (arity : Int) (l : List Ent) : Option (Val × Int) :=
 Option.bind (bif decide (arity < 0)
 then (some true)
 else (some (decide (4 < arity)))) fun q1 =>
 bif q1
 then (some (Val.mk 0 0 (⟨#[]⟩ : ByteArray) ([] : List Val) ([] : List Key) ([] : List Ent) ([] : List ByteArray), 1))
 else (Option.bind (j5 (a0p arity l n) ((l.length : Int).toNat + 1) (0, (0, 0, (⟨#[]⟩ : ByteArray), [], [], [], []))) fun (b12 : Sum (Int × Int × ByteArray × (List Val) × (List Key) × (List Ent) × (List ByteArray)) (Int × (Int × Int × ByteArray × (List Val) × (List Key) × (List Ent) × (List ByteArray)))) =>
 w5 (fun _ =>
 Option.bind (a3t n l) fun r15 =>
 some (Val.mk 9 arity (⟨#[]⟩ : ByteArray) ([] : List Val) ([] : List Key) r15 ([] : List ByteArray), 0)) (fun y14 =>
 some (Val.mk y14.2.1 y14.2.2.1 y14.2.2.2.1 y14.2.2.2.2.1 y14.2.2.2.2.2.1 y14.2.2.2.2.2.2.1 y14.2.2.2.2.2.2.2, y14.1)) b12)
def a2v (l : List ByteArray) (x1 : (List ByteArray) × Int) (x2 : Int) : Option (Fl Int Int) :=
 Option.bind (bif decide (x2 < (x1.1.length : Int))
 then (Option.bind (idx x1.1 x2) fun e3 =>
 Option.bind (idx l x1.2) fun e4 =>
 some (a1V e3 e4))
 else (some false)) fun q5 =>
 bif q5
 then (some (.next (wr .i64 (x2 + 1))))
 else (some (.done x2))
def a0h (l : List ByteArray) (x1 : (List ByteArray) × Int) : Option (Fl ((List ByteArray) × Int) (List ByteArray)) :=
 bif decide (x1.2 < (l.length : Int))
 then (Option.bind (Option.bind (j5 (a2v l x1) ((x1.1.length : Int).toNat + 1) 0) fun b6 =>
 Option.bind (bif decide (b6 < (x1.1.length : Int))
 then (Option.bind (idx x1.1 b6) fun e7 =>
 Option.bind (idx l x1.2) fun e8 =>
 some (V3 e7 e8))
 else (some false)) fun q9 =>
 bif q9
 then (some x1.1)
 else (Option.bind (cut x1.1 0 b6) fun y10 =>
 Option.bind (Z5 (0 + y10.length) 16) fun _ =>
 Option.bind (idx l x1.2) fun e12 =>
 Option.bind (Z5 (y10.length + ([e12] : List ByteArray).length) 16) fun _ =>
 Option.bind (cut x1.1 b6 (x1.1.length : Int)) fun y14 =>
 Option.bind (Z5 ((y10 ++ ([e12] : List ByteArray)).length + y14.length) 16) fun _ =>
 some ((y10 ++ ([e12] : List ByteArray)) ++ y14))) fun b16 =>
 some (.next (b16, wr .i64 (x1.2 + 1))))
 else (some (.done x1.1))
def X4 (l : List ByteArray) : Option (List ByteArray) :=
 Option.bind (j5 (a0h l) ((l.length : Int).toNat + 1) (([] : List ByteArray), 0)) fun b17 =>
 some b17
def a30 (v : Val) (names : List ByteArray) : Option Val :=
 Option.bind (X4 names) fun r1 =>
 some (Val.mk v.Kind v.Int_ v.Text v.Kids v.Keys v.Entries r1)
def a43 (head : Val) (tail : Val) : Option Val :=
 some (Val.mk 7 0 (⟨#[]⟩ : ByteArray) ([head, tail] : List Val) ([] : List Key) ([] : List Ent) ([] : List ByteArray))
def a0I (s : Semtypebase_Source) : Option ((List ByteArray) × Semtypebase_Source) :=
 Option.bind (y4 s 3) fun r1 =>
 Option.bind (bif r1.1 == 1
 then (Option.bind (a0g r1.2) fun r2 =>
 Option.bind (Z5 (0 + ([r2.1] : List ByteArray).length) 16) fun _ =>
 Option.bind (y4 r2.2 2) fun r4 =>
 bif r4.1 == 1
 then (Option.bind (a0g r4.2) fun r5 =>
 Option.bind (Z5 (([r2.1] : List ByteArray).length + ([r5.1] : List ByteArray).length) 16) fun _ =>
 some (([r2.1] : List ByteArray) ++ ([r5.1] : List ByteArray), r5.2))
 else (some (([r2.1] : List ByteArray), r4.2)))
 else (some ([], r1.2))) fun b7 =>
 Option.bind (X4 b7.1) fun r8 =>
 some (r8, b7.2)
def a2i (s : Semtypebase_Source) : Option (Key × Semtypebase_Source) :=
 Option.bind (y4 s 2) fun r1 =>
 bif r1.1 == 0
 then (Option.bind (K5 r1.2) fun r2 =>
 some (Key.mk 0 r2.1, r2.2))
 else (Option.bind (X1 r1.2) fun r3 =>
 some (Key.mk 1 r3.1, r3.2))
def a02 (t : Int) (rec_semtypebase_Source_Value : Semtypebase_Source -> Int -> Option (Val × Semtypebase_Source)) (x4 : (List Val) × Int × Semtypebase_Source) : Option (Fl ((List Val) × Int × Semtypebase_Source) ((List Val) × Semtypebase_Source)) :=
 bif decide (0 < x4.2.1)
 then (Option.bind (rec_semtypebase_Source_Value x4.2.2 (wr .i64 (t - 1))) fun r5 =>
 Option.bind (Z5 (x4.1.length + ([r5.1] : List Val).length) 128) fun _ =>
 some (.next (x4.1 ++ ([r5.1] : List Val), wr .i64 (x4.2.1 - 1), r5.2)))
 else (some (.done (x4.1, x4.2.2)))
def a06 (t : Int) (rec_semtypebase_Source_Value : Semtypebase_Source -> Int -> Option (Val × Semtypebase_Source)) (x20 : (List Key) × (List Val) × Int × Semtypebase_Source) : Option (Fl ((List Key) × (List Val) × Int × Semtypebase_Source) ((List Key) × (List Val) × Semtypebase_Source)) :=
 bif decide (0 < x20.2.2.1)
 then (Option.bind (a2i x20.2.2.2) fun r21 =>
 Option.bind (Z5 (x20.1.length + ([r21.1] : List Key).length) 24) fun _ =>
 Option.bind (rec_semtypebase_Source_Value r21.2 (wr .i64 (t - 1))) fun r23 =>
 Option.bind (Z5 (x20.2.1.length + ([r23.1] : List Val).length) 128) fun _ =>
 some (.next (x20.1 ++ ([r21.1] : List Key), x20.2.1 ++ ([r23.1] : List Val), wr .i64 (x20.2.2.1 - 1), r23.2)))
 else (some (.done (x20.1, x20.2.1, x20.2.2.2)))
def a03 (t : Int) (r27 : Int × Semtypebase_Source) (rec_semtypebase_Source_entry : Semtypebase_Source -> Int -> Int -> Option (Ent × Semtypebase_Source)) (x29 : (List Ent) × Int × Semtypebase_Source) : Option (Fl ((List Ent) × Int × Semtypebase_Source) ((List Ent) × Semtypebase_Source)) :=
 bif decide (0 < x29.2.1)
 then (Option.bind (rec_semtypebase_Source_entry x29.2.2 r27.1 (wr .i64 (t - 1))) fun r30 =>
 Option.bind (Z5 (x29.1.length + ([r30.1] : List Ent).length) 160) fun _ =>
 some (.next (x29.1 ++ ([r30.1] : List Ent), wr .i64 (x29.2.1 - 1), r30.2)))
 else (some (.done (x29.1, x29.2.2)))
def a04 (height : Int) (rec_semtypebase_Source_Value : Semtypebase_Source -> Int -> Option (Val × Semtypebase_Source)) (x1 : Int × Semtypebase_Source × ((List Val) × Bool × Int × Int × ByteArray × (List Val) × (List Key) × (List Ent) × (List ByteArray))) : Option (Fl (Int × Semtypebase_Source × ((List Val) × Bool × Int × Int × ByteArray × (List Val) × (List Key) × (List Ent) × (List ByteArray))) (Semtypebase_Source × ((List Val) × Bool × Int × Int × ByteArray × (List Val) × (List Key) × (List Ent) × (List ByteArray)))) :=
 bif decide (0 < x1.1)
 then (Option.bind (rec_semtypebase_Source_Value x1.2.1 height) fun r2 =>
 Option.bind (Z5 (x1.2.2.1.length + ([r2.1] : List Val).length) 128) fun _ =>
 some (.next (wr .i64 (x1.1 - 1), r2.2, (x1.2.2.1 ++ ([r2.1] : List Val), x1.2.2.2.1, x1.2.2.2.2.1, x1.2.2.2.2.2.1, x1.2.2.2.2.2.2.1, x1.2.2.2.2.2.2.2.1, x1.2.2.2.2.2.2.2.2.1, x1.2.2.2.2.2.2.2.2.2.1, x1.2.2.2.2.2.2.2.2.2.2))))
 else (some (.done (x1.2.1, (x1.2.2.1, x1.2.2.2.1, x1.2.2.2.2.1, x1.2.2.2.2.2.1, x1.2.2.2.2.2.2.1, x1.2.2.2.2.2.2.2.1, x1.2.2.2.2.2.2.2.2.1, x1.2.2.2.2.2.2.2.2.2.1, x1.2.2.2.2.2.2.2.2.2.2))))
def a2G (_ : Nat) (_ : Semtypebase_Source -> Int -> Option (Val × Semtypebase_Source)) (rec_semtypebase_Source_value : Semtypebase_Source -> Int -> Option (Val × Semtypebase_Source)) (_ : Semtypebase_Source -> Int -> Int -> Option (Ent × Semtypebase_Source)) (s : Semtypebase_Source) (height : Int) : Option (Val × Semtypebase_Source) :=
 Option.bind (rec_semtypebase_Source_value s height) fun r1 =>
 Option.bind (a0I r1.2) fun r2 =>
 some (Val.mk r1.1.Kind r1.1.Int_ r1.1.Text r1.1.Kids r1.1.Keys r1.1.Entries r2.1, r2.2)
def a0v (n : Nat) (rec_semtypebase_Source_Value : Semtypebase_Source -> Int -> Option (Val × Semtypebase_Source)) (_ : Semtypebase_Source -> Int -> Option (Val × Semtypebase_Source)) (rec_semtypebase_Source_entry : Semtypebase_Source -> Int -> Int -> Option (Ent × Semtypebase_Source)) (d : Semtypebase_Source) (t : Int) : Option (Val × Semtypebase_Source) :=
 bif decide (t <= 1)
 then (Option.bind (J9 d) fun r1 =>
 some (r1.1, r1.2))
 else (Option.bind (y4 d 6) fun r2 =>
 Option.bind (bif r2.1 == 1
 then (Option.bind (y4 r2.2 4) fun r3 =>
 Option.bind (j5 (a02 t rec_semtypebase_Source_Value) (r3.1.toNat + 2) ([], r3.1, r3.2)) fun b7 =>
 Option.bind (a2O b7.1) fun r8 =>
 some (.inr (b7.2, (r8.Kind, r8.Int_, r8.Text, r8.Kids, r8.Keys, r8.Entries, r8.Labels))))
 else (bif r2.1 == 2
 then (Option.bind (W4) fun r9 =>
 Option.bind (bif decide (2 < t)
 then (Option.bind (y4 r2.2 2) fun r10 =>
 some (r10.1 == 1, r10.2))
 else (some (false, r2.2))) fun b11 =>
 Option.bind (bif b11.1
 then (Option.bind (rec_semtypebase_Source_Value b11.2 (wr .i64 (t - 2))) fun r12 =>
 Option.bind (W4) fun r13 =>
 Option.bind (a43 r12.1 r13) fun r14 =>
 some (r12.2, r14))
 else (some (b11.2, r9))) fun b15 =>
 Option.bind (a0I b15.1) fun r16 =>
 Option.bind (rec_semtypebase_Source_Value r16.2 (wr .i64 (t - 1))) fun r17 =>
 Option.bind (a43 r17.1 (Val.mk b15.2.Kind b15.2.Int_ b15.2.Text b15.2.Kids b15.2.Keys b15.2.Entries r16.1)) fun r18 =>
 some (.inr (r17.2, (r18.Kind, r18.Int_, r18.Text, r18.Kids, r18.Keys, r18.Entries, r18.Labels))))
 else (bif r2.1 == 3
 then (Option.bind (y4 r2.2 3) fun r19 =>
 Option.bind (j5 (a06 t rec_semtypebase_Source_Value) (r19.1.toNat + 2) ([], [], r19.1, r19.2)) fun b25 =>
 Option.bind (a1A b25.1 b25.2.1) fun r26 =>
 bif r26.2 == 0
 then (some (.inr (b25.2.2, (r26.1.Kind, r26.1.Int_, r26.1.Text, r26.1.Kids, r26.1.Keys, r26.1.Entries, r26.1.Labels))))
 else (some (.inl (b25.2.2, (0, 0, (⟨#[]⟩ : ByteArray), ([] : List Val), ([] : List Key), ([] : List Ent), ([] : List ByteArray))))))
 else (bif r2.1 == 4
 then (Option.bind (y4 r2.2 3) fun r27 =>
 Option.bind (y4 r27.2 3) fun r28 =>
 Option.bind (j5 (a03 t r27 rec_semtypebase_Source_entry) (r28.1.toNat + 2) ([], r28.1, r28.2)) fun b32 =>
 Option.bind (a1K n r27.1 b32.1) fun r33 =>
 bif r33.2 == 0
 then (some (.inr (b32.2, (r33.1.Kind, r33.1.Int_, r33.1.Text, r33.1.Kids, r33.1.Keys, r33.1.Entries, r33.1.Labels))))
 else (some (.inl (b32.2, (0, 0, (⟨#[]⟩ : ByteArray), ([] : List Val), ([] : List Key), ([] : List Ent), ([] : List ByteArray))))))
 else (some (.inl (r2.2, (0, 0, (⟨#[]⟩ : ByteArray), ([] : List Val), ([] : List Key), ([] : List Ent), ([] : List ByteArray))))))))) fun (b34 : Sum (Semtypebase_Source × (Int × Int × ByteArray × (List Val) × (List Key) × (List Ent) × (List ByteArray))) (Semtypebase_Source × (Int × Int × ByteArray × (List Val) × (List Key) × (List Ent) × (List ByteArray)))) =>
 w5 (fun x35 =>
 Option.bind (J9 x35.1) fun r37 =>
 some (r37.1, r37.2)) (fun y36 =>
 some (Val.mk y36.2.1 y36.2.2.1 y36.2.2.2.1 y36.2.2.2.2.1 y36.2.2.2.2.2.1 y36.2.2.2.2.2.2.1 y36.2.2.2.2.2.2.2, y36.1)) b34)
def a2D (_ : Nat) (rec_semtypebase_Source_Value : Semtypebase_Source -> Int -> Option (Val × Semtypebase_Source)) (_ : Semtypebase_Source -> Int -> Option (Val × Semtypebase_Source)) (_ : Semtypebase_Source -> Int -> Int -> Option (Ent × Semtypebase_Source)) (s : Semtypebase_Source) (n_1 : Int) (height : Int) : Option (Ent × Semtypebase_Source) :=
 Option.bind (j5 (a04 height rec_semtypebase_Source_Value) (n_1.toNat + 2) (n_1, s, ([], false, 0, 0, (⟨#[]⟩ : ByteArray), [], [], [], []))) fun b4 =>
 Option.bind (y4 b4.1 4) fun r5 =>
 bif r5.1 == 1
 then (some (Ent.mk b4.2.1 true (Val.mk b4.2.2.2.1 b4.2.2.2.2.1 b4.2.2.2.2.2.1 b4.2.2.2.2.2.2.1 b4.2.2.2.2.2.2.2.1 b4.2.2.2.2.2.2.2.2.1 b4.2.2.2.2.2.2.2.2.2), r5.2))
 else (Option.bind (rec_semtypebase_Source_Value r5.2 height) fun r6 =>
 some (Ent.mk b4.2.1 b4.2.2.1 r6.1, r6.2))
def j8 : Nat -> (Semtypebase_Source -> Int -> Option (Val × Semtypebase_Source)) × (Semtypebase_Source -> Int -> Option (Val × Semtypebase_Source)) × (Semtypebase_Source -> Int -> Int -> Option (Ent × Semtypebase_Source))
 | 0 => (fun _ _ => none, fun _ _ => none, fun _ _ _ => none)
 | n + 1 => (a2G n ((j8 n).1) ((j8 n).2.1) ((j8 n).2.2), a0v n ((j8 n).1) ((j8 n).2.1) ((j8 n).2.2), a2D n ((j8 n).1) ((j8 n).2.1) ((j8 n).2.2))
def a1y (n : Nat) : Semtypebase_Source -> Int -> Option (Val × Semtypebase_Source) := (j8 n).1
def b0P (n : Nat) : Semtypebase_Source -> Int -> Option (Val × Semtypebase_Source) := (j8 n).2.1
def b0D (n : Nat) : Semtypebase_Source -> Int -> Int -> Option (Ent × Semtypebase_Source) := (j8 n).2.2
def a2N (c : Int) : Option Bool :=
 Option.bind (bif decide (65 <= c)
 then (some (decide (c <= 90)))
 else (some false)) fun q1 =>
 some q1
def a2X (s : ByteArray) (x5 : Int) : Option (Fl Int (Sum Unit Bool)) :=
 bif decide (x5 < (s.size : Int))
 then (Option.bind (a4P s x5) fun e6 =>
 Option.bind (a1N (e6.toNat : Int)) fun r7 =>
 Option.bind (bif !r7
 then (Option.bind (a4P s x5) fun e8 =>
 Option.bind (a2N (e8.toNat : Int)) fun r9 =>
 some (!r9))
 else (some false)) fun q10 =>
 Option.bind (bif q10
 then (Option.bind (a4P s x5) fun e11 =>
 Option.bind (a2K (e11.toNat : Int)) fun r12 =>
 some (!r12))
 else (some false)) fun q13 =>
 Option.bind (bif q13
 then (Option.bind (a4P s x5) fun e14 =>
 some ((e14.toNat : Int) != 95))
 else (some false)) fun q15 =>
 bif q15
 then (some (.done (.inr false)))
 else (some (.next (wr .i64 (x5 + 1)))))
 else (some (.done (.inl ())))
def a1g (s : ByteArray) : Option Bool :=
 Option.bind (bif decide ((s.size : Int) < 1)
 then (some true)
 else (some (decide (16 < (s.size : Int))))) fun q1 =>
 Option.bind (bif q1
 then (some true)
 else (Option.bind (a4P s 0) fun e2 =>
 Option.bind (a2N (e2.toNat : Int)) fun r3 =>
 some (!r3))) fun q4 =>
 bif q4
 then (some false)
 else (Option.bind (j5 (a2X s) ((s.size : Int).toNat + 1) 1) fun b16 =>
 w5 (fun _ =>
 some true) (fun y18 =>
 some y18) b16)
def a3r (d : Val) (x1 : Int) : Option (Fl Int (Sum Unit Bool)) :=
 bif decide (x1 < (d.Labels.length : Int))
 then (Option.bind (idx d.Labels x1) fun e2 =>
 Option.bind (a1g e2) fun r3 =>
 Option.bind (bif !r3
 then (some true)
 else (Option.bind (bif decide (0 < x1)
 then (Option.bind (idx d.Labels (wr .i64 (x1 - 1))) fun e4 =>
 Option.bind (idx d.Labels x1) fun e5 =>
 some (!(a1V e4 e5)))
 else (some false)) fun q6 =>
 some q6)) fun q7 =>
 bif q7
 then (some (.done (.inr false)))
 else (some (.next (wr .i64 (x1 + 1)))))
 else (some (.done (.inl ())))
def a3v (d : Val) (x31 : Int) : Option (Fl Int (Sum Unit Bool)) :=
 bif decide (x31 < (d.Keys.length : Int))
 then (Option.bind (idx d.Keys x31) fun e32 =>
 Option.bind (a0V e32) fun r33 =>
 Option.bind (bif !r33
 then (some true)
 else (Option.bind (bif decide (0 < x31)
 then (Option.bind (idx d.Keys (wr .i64 (x31 - 1))) fun e34 =>
 Option.bind (idx d.Keys x31) fun e35 =>
 Option.bind (V1 e34 e35) fun r36 =>
 some (decide (0 <= r36)))
 else (some false)) fun q37 =>
 some q37)) fun q38 =>
 bif q38
 then (some (.done (.inr false)))
 else (some (.next (wr .i64 (x31 + 1)))))
 else (some (.done (.inl ())))
def a3s (d : Val) (n : Nat) (x43 : Int) : Option (Fl Int (Sum Unit Bool)) :=
 bif decide (x43 < (d.Entries.length : Int))
 then (Option.bind (idx d.Entries x43) fun e44 =>
 Option.bind (bif (e44.Args.length : Int) != d.Int_
 then (some true)
 else (Option.bind (bif e44.Fails
 then (Option.bind (a2M n e44.Result (Val.mk 0 0 (⟨#[]⟩ : ByteArray) ([] : List Val) ([] : List Key) ([] : List Ent) ([] : List ByteArray))) fun r45 =>
 some (!r45))
 else (some false)) fun q46 =>
 some q46)) fun q47 =>
 Option.bind (bif q47
 then (some true)
 else (Option.bind (bif decide (0 < x43)
 then (Option.bind (idx d.Entries (wr .i64 (x43 - 1))) fun e48 =>
 Option.bind (Z4 n e48 e44) fun r49 =>
 some (decide (0 <= r49)))
 else (some false)) fun q50 =>
 some q50)) fun q51 =>
 bif q51
 then (some (.done (.inr false)))
 else (some (.next (wr .i64 (x43 + 1)))))
 else (some (.done (.inl ())))
def a44 (n : Nat) (d : Val) : Option Bool :=
 Option.bind (j5 (a3r d) ((d.Labels.length : Int).toNat + 1) 0) fun b8 =>
 w5 (fun _ =>
 Option.bind (bif d.Kind == 1
 then (some true)
 else (some (d.Kind == 4))) fun q11 =>
 Option.bind (bif q11
 then (some true)
 else (some (d.Kind == 9))) fun q12 =>
 Option.bind (bif d.Kind == 2
 then (some true)
 else (some (d.Kind == 3))) fun q13 =>
 Option.bind (bif d.Kind == 6
 then (some true)
 else (some (d.Kind == 7))) fun q14 =>
 Option.bind (bif q14
 then (some true)
 else (some (d.Kind == 8))) fun q15 =>
 Option.bind (bif !q12
 then (some (d.Int_ != 0))
 else (some false)) fun q16 =>
 Option.bind (bif q16
 then (some true)
 else (Option.bind (bif !q13
 then (some (!(V3 d.Text (⟨#[]⟩ : ByteArray))))
 else (some false)) fun q17 =>
 some q17)) fun q18 =>
 Option.bind (bif q18
 then (some true)
 else (Option.bind (bif !q15
 then (some (decide (0 < (d.Kids.length : Int))))
 else (some false)) fun q19 =>
 some q19)) fun q20 =>
 Option.bind (bif q20
 then (some true)
 else (Option.bind (bif d.Kind != 8
 then (some (decide (0 < (d.Keys.length : Int))))
 else (some false)) fun q21 =>
 some q21)) fun q22 =>
 Option.bind (bif q22
 then (some true)
 else (Option.bind (bif d.Kind != 9
 then (some (decide (0 < (d.Entries.length : Int))))
 else (some false)) fun q23 =>
 some q23)) fun q24 =>
 bif q24
 then (some false)
 else (Option.bind (bif d.Kind == 1
 then (some (d.Kind == 1))
 else (some (d.Kind == 5))) fun b25 =>
 bif b25
 then (some true)
 else (bif d.Kind == 2
 then (some (decide ((d.Text.size : Int) <= 64)))
 else (bif d.Kind == 3
 then (Option.bind (a1r d.Text) fun r26 =>
 some r26)
 else (bif d.Kind == 4
 then (some (decide (0 <= d.Int_)))
 else (bif d.Kind == 6
 then (some (decide ((d.Kids.length : Int) <= 4)))
 else (bif d.Kind == 7
 then (Option.bind (bif (d.Kids.length : Int) == 2
 then (Option.bind (idx d.Kids 1) fun e27 =>
 Option.bind (bif e27.Kind == 5
 then (some true)
 else (Option.bind (idx d.Kids 1) fun e28 =>
 some (e28.Kind == 7))) fun q29 =>
 some q29)
 else (some false)) fun q30 =>
 some q30)
 else (bif d.Kind == 8
 then (Option.bind (j5 (a3v d) ((d.Keys.length : Int).toNat + 1) 0) fun b39 =>
 w5 (fun _ =>
 some ((d.Keys.length : Int) == (d.Kids.length : Int))) (fun y41 =>
 some y41) b39)
 else (bif d.Kind == 9
 then (Option.bind (bif decide (d.Int_ < 0)
 then (some true)
 else (some (decide (4 < d.Int_)))) fun q42 =>
 bif q42
 then (some false)
 else (Option.bind (j5 (a3s d n) ((d.Entries.length : Int).toNat + 1) 0) fun b52 =>
 w5 (fun _ =>
 some true) (fun y54 =>
 some y54) b52))
 else (some false)))))))))) (fun y10 =>
 some y10) b8
def a20 (v : Val) (rec_semtyperef1_Valid : Val -> Option Bool) (x2 : Int) : Option (Fl Int (Sum Unit Bool)) :=
 bif decide (x2 < (v.Kids.length : Int))
 then (Option.bind (idx v.Kids x2) fun e3 =>
 Option.bind (rec_semtyperef1_Valid e3) fun r4 =>
 bif !r4
 then (some (.done (.inr false)))
 else (some (.next (wr .i64 (x2 + 1)))))
 else (some (.done (.inl ())))
def a2Z (rec_semtyperef1_Valid : Val -> Option Bool) (e9 : Ent) (x10 : Int) : Option (Fl Int (Sum Unit Bool)) :=
 bif decide (x10 < (e9.Args.length : Int))
 then (Option.bind (idx e9.Args x10) fun e11 =>
 Option.bind (rec_semtyperef1_Valid e11) fun r12 =>
 bif !r12
 then (some (.done (.inr false)))
 else (some (.next (wr .i64 (x10 + 1)))))
 else (some (.done (.inl ())))
def a2U (v : Val) (rec_semtyperef1_Valid : Val -> Option Bool) (x8 : Int) : Option (Fl Int (Sum Unit Bool)) :=
 bif decide (x8 < (v.Entries.length : Int))
 then (Option.bind (idx v.Entries x8) fun e9 =>
 Option.bind (j5 (a2Z rec_semtyperef1_Valid e9) ((e9.Args.length : Int).toNat + 1) 0) fun b13 =>
 w5 (fun _ =>
 Option.bind (bif !e9.Fails
 then (Option.bind (rec_semtyperef1_Valid e9.Result) fun r16 =>
 some (!r16))
 else (some false)) fun q17 =>
 bif q17
 then (some (.done (.inr false)))
 else (some (.next (wr .i64 (x8 + 1))))) (fun y15 =>
 some (.done (.inr y15))) b13)
 else (some (.done (.inl ())))
def a5v (n : Nat) (rec_semtyperef1_Valid : Val -> Option Bool) (v : Val) : Option Bool :=
 Option.bind (a44 n v) fun r1 =>
 bif !r1
 then (some false)
 else (Option.bind (j5 (a20 v rec_semtyperef1_Valid) ((v.Kids.length : Int).toNat + 1) 0) fun b5 =>
 w5 (fun _ =>
 Option.bind (j5 (a2U v rec_semtyperef1_Valid) ((v.Entries.length : Int).toNat + 1) 0) fun b18 =>
 w5 (fun _ =>
 some true) (fun y20 =>
 some y20) b18) (fun y7 =>
 some y7) b5)
def a0b : Nat -> Val -> Option Bool
 | 0 => fun _ => none
 | n + 1 => a5v n (a0b n)
def a0u (t : Api_Type) (a3_3 : Int) (e4 : Api_TypeNode) (rec_semtypebase_Source_Near : Semtypebase_Source -> Api_Type -> Int -> Int -> Option (Val × Semtypebase_Source)) (x21 : Int × Semtypebase_Source × (Int × Int × ByteArray × (List Val) × (List Key) × (List Ent) × (List ByteArray))) : Option (Fl (Int × Semtypebase_Source × (Int × Int × ByteArray × (List Val) × (List Key) × (List Ent) × (List ByteArray))) (Semtypebase_Source × (Int × Int × ByteArray × (List Val) × (List Key) × (List Ent) × (List ByteArray)))) :=
 bif decide (x21.1 < (e4.Kids.length : Int))
 then (Option.bind (idx e4.Kids x21.1) fun e22 =>
 Option.bind (rec_semtypebase_Source_Near x21.2.1 t e22 (wr .i64 (a3_3 - 1))) fun r23 =>
 Option.bind (Z5 (x21.2.2.2.2.2.1.length + ([r23.1] : List Val).length) 128) fun _ =>
 some (.next (wr .i64 (x21.1 + 1), r23.2, (x21.2.2.1, x21.2.2.2.1, x21.2.2.2.2.1, x21.2.2.2.2.2.1 ++ ([r23.1] : List Val), x21.2.2.2.2.2.2.1, x21.2.2.2.2.2.2.2.1, x21.2.2.2.2.2.2.2.2))))
 else (some (.done (x21.2.1, (x21.2.2.1, x21.2.2.2.1, x21.2.2.2.2.1, x21.2.2.2.2.2.1, x21.2.2.2.2.2.2.1, x21.2.2.2.2.2.2.2.1, x21.2.2.2.2.2.2.2.2))))
def V0 (t : Api_Type) (e4 : Api_TypeNode) (x40 : Int × Val) : Option (Fl (Int × Val) Val) :=
 bif decide (x40.1 < (e4.Kids.length : Int))
 then (Option.bind (Option.bind (idx e4.Kids x40.1) fun e41 =>
 Option.bind (idx t.Nodes e41) fun e42 =>
 bif e42.Kind == 19
 then (Option.bind (Z5 (0 + x40.2.Labels.length) 16) fun _ =>
 Option.bind (idx e4.Kids x40.1) fun e44 =>
 Option.bind (idx t.Nodes e44) fun e45 =>
 Option.bind (Z5 (x40.2.Labels.length + ([e45.Text] : List ByteArray).length) 16) fun _ =>
 Option.bind (X4 (x40.2.Labels ++ ([e45.Text] : List ByteArray))) fun r47 =>
 some (Val.mk x40.2.Kind x40.2.Int_ x40.2.Text x40.2.Kids x40.2.Keys x40.2.Entries r47))
 else (some x40.2)) fun b48 =>
 some (.next (wr .i64 (x40.1 + 1), b48)))
 else (some (.done x40.2))
def J6 (t : Api_Type) (a2_2 : Api_TypeNode) (a3_3 : Int) (rec_semtypebase_Source_Near : Semtypebase_Source -> Api_Type -> Int -> Int -> Option (Val × Semtypebase_Source)) (x3 : Int × Semtypebase_Source × ((List Val) × Bool × Int × Int × ByteArray × (List Val) × (List Key) × (List Ent) × (List ByteArray))) : Option (Fl (Int × Semtypebase_Source × ((List Val) × Bool × Int × Int × ByteArray × (List Val) × (List Key) × (List Ent) × (List ByteArray))) (Semtypebase_Source × ((List Val) × Bool × Int × Int × ByteArray × (List Val) × (List Key) × (List Ent) × (List ByteArray)))) :=
 bif decide (x3.1 < (wr .i64 ((a2_2.Kids.length : Int) - 1)))
 then (Option.bind (idx a2_2.Kids x3.1) fun e4 =>
 Option.bind (rec_semtypebase_Source_Near x3.2.1 t e4 (wr .i64 (a3_3 - 1))) fun r5 =>
 Option.bind (Z5 (x3.2.2.1.length + ([r5.1] : List Val).length) 128) fun _ =>
 some (.next (wr .i64 (x3.1 + 1), r5.2, (x3.2.2.1 ++ ([r5.1] : List Val), x3.2.2.2.1, x3.2.2.2.2.1, x3.2.2.2.2.2.1, x3.2.2.2.2.2.2.1, x3.2.2.2.2.2.2.2.1, x3.2.2.2.2.2.2.2.2.1, x3.2.2.2.2.2.2.2.2.2.1, x3.2.2.2.2.2.2.2.2.2.2))))
 else (some (.done (x3.2.1, (x3.2.2.1, x3.2.2.2.1, x3.2.2.2.2.1, x3.2.2.2.2.2.1, x3.2.2.2.2.2.2.1, x3.2.2.2.2.2.2.2.1, x3.2.2.2.2.2.2.2.2.1, x3.2.2.2.2.2.2.2.2.2.1, x3.2.2.2.2.2.2.2.2.2.2))))
def V5 (t : Api_Type) (a2_2 : Api_TypeNode) (a3_3 : Int) (rec_semtypebase_Source_Near : Semtypebase_Source -> Api_Type -> Int -> Int -> Option (Val × Semtypebase_Source)) (x2 : (List Ent) × Int × Semtypebase_Source) : Option (Fl ((List Ent) × Int × Semtypebase_Source) ((List Ent) × Semtypebase_Source)) :=
 bif decide (0 < x2.2.1)
 then (Option.bind (j5 (J6 t a2_2 a3_3 rec_semtypebase_Source_Near) ((wr .i64 ((a2_2.Kids.length : Int) - 1)).toNat + 1) (0, x2.2.2, ([], false, 0, 0, (⟨#[]⟩ : ByteArray), [], [], [], []))) fun b7 =>
 Option.bind (y4 b7.1 6) fun r8 =>
 Option.bind (bif r8.1 == 1
 then (some (r8.2, (b7.2.1, true, b7.2.2.2.1, b7.2.2.2.2.1, b7.2.2.2.2.2.1, b7.2.2.2.2.2.2.1, b7.2.2.2.2.2.2.2.1, b7.2.2.2.2.2.2.2.2.1, b7.2.2.2.2.2.2.2.2.2)))
 else (Option.bind (idx a2_2.Kids (wr .i64 ((a2_2.Kids.length : Int) - 1))) fun e9 =>
 Option.bind (rec_semtypebase_Source_Near r8.2 t e9 (wr .i64 (a3_3 - 1))) fun r10 =>
 some (r10.2, (b7.2.1, b7.2.2.1, r10.1.Kind, r10.1.Int_, r10.1.Text, r10.1.Kids, r10.1.Keys, r10.1.Entries, r10.1.Labels)))) fun b11 =>
 Option.bind (Z5 (x2.1.length + ([Ent.mk b11.2.1 b11.2.2.1 (Val.mk b11.2.2.2.1 b11.2.2.2.2.1 b11.2.2.2.2.2.1 b11.2.2.2.2.2.2.1 b11.2.2.2.2.2.2.2.1 b11.2.2.2.2.2.2.2.2.1 b11.2.2.2.2.2.2.2.2.2)] : List Ent).length) 160) fun _ =>
 some (.next (x2.1 ++ ([Ent.mk b11.2.1 b11.2.2.1 (Val.mk b11.2.2.2.1 b11.2.2.2.2.1 b11.2.2.2.2.2.1 b11.2.2.2.2.2.2.1 b11.2.2.2.2.2.2.2.1 b11.2.2.2.2.2.2.2.2.1 b11.2.2.2.2.2.2.2.2.2)] : List Ent), wr .i64 (x2.2.1 - 1), b11.1)))
 else (some (.done (x2.1, x2.2.2)))
def X8 (t : Api_Type) (a2_2 : Api_TypeNode) (a3_3 : Int) (rec_semtypebase_Source_Near : Semtypebase_Source -> Api_Type -> Int -> Int -> Option (Val × Semtypebase_Source)) (x1 : (List Key) × (List Val) × Int × Semtypebase_Source) : Option (Fl ((List Key) × (List Val) × Int × Semtypebase_Source) ((List Key) × (List Val) × Semtypebase_Source)) :=
 bif decide (x1.2.2.1 < (a2_2.Fields.length : Int))
 then (Option.bind (Option.bind (Option.bind (idx a2_2.Fields x1.2.2.1) fun e2 =>
 bif e2.Optional
 then (Option.bind (y4 x1.2.2.2 2) fun r3 =>
 some (r3.1 == 1, r3.2))
 else (some (false, x1.2.2.2))) fun b4 =>
 bif b4.1
 then (some (x1.1, x1.2.1, b4.2))
 else (Option.bind (idx a2_2.Fields x1.2.2.1) fun e5 =>
 Option.bind (Z5 (x1.1.length + ([e5.Key_] : List Key).length) 24) fun _ =>
 Option.bind (idx a2_2.Fields x1.2.2.1) fun e7 =>
 Option.bind (rec_semtypebase_Source_Near b4.2 t e7.Node (wr .i64 (a3_3 - 1))) fun r8 =>
 Option.bind (Z5 (x1.2.1.length + ([r8.1] : List Val).length) 128) fun _ =>
 some (x1.1 ++ ([e5.Key_] : List Key), x1.2.1 ++ ([r8.1] : List Val), r8.2))) fun b10 =>
 some (.next (b10.1, b10.2.1, wr .i64 (x1.2.2.1 + 1), b10.2.2)))
 else (some (.done (x1.1, x1.2.1, x1.2.2.2)))
def a2V (n : Nat) (_ : Semtypebase_Source -> Api_Type -> Int -> Int -> Option (Val × Semtypebase_Source)) (rec_semtypebase_Source_near : Semtypebase_Source -> Api_Type -> Int -> Int -> Option (Val × Semtypebase_Source)) (_ : Semtypebase_Source -> Api_Type -> Api_TypeNode -> Int -> Option (Val × Semtypebase_Source)) (_ : Semtypebase_Source -> Api_Type -> Api_TypeNode -> Int -> Option (Val × Semtypebase_Source)) (s : Semtypebase_Source) (t : Api_Type) (k : Int) (height : Int) : Option (Val × Semtypebase_Source) :=
 Option.bind (rec_semtypebase_Source_near s t k height) fun r1 =>
 Option.bind (a0b n r1.1) fun r2 =>
 bif !r2
 then (Option.bind (J9 r1.2) fun r3 =>
 some (r3.1, r3.2))
 else (some (r1.1, r1.2))
def a0G (n : Nat) (rec_semtypebase_Source_Near : Semtypebase_Source -> Api_Type -> Int -> Int -> Option (Val × Semtypebase_Source)) (rec_semtypebase_Source_near : Semtypebase_Source -> Api_Type -> Int -> Int -> Option (Val × Semtypebase_Source)) (rec_semtypebase_Source_nearFunction : Semtypebase_Source -> Api_Type -> Api_TypeNode -> Int -> Option (Val × Semtypebase_Source)) (rec_semtypebase_Source_nearMap : Semtypebase_Source -> Api_Type -> Api_TypeNode -> Int -> Option (Val × Semtypebase_Source)) (d : Semtypebase_Source) (t : Api_Type) (a2_2 : Int) (a3_3 : Int) : Option (Val × Semtypebase_Source) :=
 Option.bind (bif decide (a3_3 <= 0)
 then (some true)
 else (some (decide (a2_2 < 0)))) fun q1 =>
 Option.bind (bif q1
 then (some true)
 else (some (decide ((t.Nodes.length : Int) <= a2_2)))) fun q2 =>
 bif q2
 then (Option.bind (J9 d) fun r3 =>
 some (r3.1, r3.2))
 else (Option.bind (idx t.Nodes a2_2) fun e4 =>
 bif e4.Kind == 3
 then (Option.bind (b3h .i64 e4.Hi 2) fun d5 =>
 Option.bind (b3h .i64 e4.Lo 2) fun d6 =>
 Option.bind (y4 d 3) fun r7 =>
 Option.bind (idx ([e4.Lo, e4.Hi, wr .i64 (e4.Lo + (wr .i64 (d5 - d6)))] : List Int) r7.1) fun _ =>
 Option.bind (([e4.Lo, e4.Hi, wr .i64 (e4.Lo + (wr .i64 (d5 - d6)))] : List Int)[r7.1.toNat]?) fun e9 =>
 Option.bind (a7L e9) fun r10 =>
 some (r10, r7.2))
 else (bif e4.Kind == 4
 then (Option.bind (a3M e4.Text) fun r11 =>
 some (r11, d))
 else (bif e4.Kind == 5
 then (Option.bind (X1 d) fun r12 =>
 Option.bind (a3M r12.1) fun r13 =>
 some (r13, r12.2))
 else (bif e4.Kind == 6
 then (Option.bind (a4W e4.Text) fun r14 =>
 some (r14, d))
 else (bif e4.Kind == 7
 then (Option.bind (K5 d) fun r15 =>
 Option.bind (a4W r15.1) fun r16 =>
 some (r16, r15.2))
 else (bif e4.Kind == 8
 then (Option.bind (y4 d 2) fun r17 =>
 Option.bind (a7O r17.1) fun r18 =>
 some (r18, r17.2))
 else (bif e4.Kind == 9
 then (Option.bind (W4) fun r19 =>
 some (r19, d))
 else (Option.bind (bif e4.Kind == 10
 then (some (e4.Kind == 10))
 else (some (e4.Kind == 12))) fun b20 =>
 bif b20
 then (Option.bind (j5 (a0u t a3_3 e4 rec_semtypebase_Source_Near) ((e4.Kids.length : Int).toNat + 1) (0, d, (0, 0, (⟨#[]⟩ : ByteArray), [], [], [], []))) fun b25 =>
 Option.bind (bif e4.Kind == 12
 then (Option.bind (idx b25.2.2.2.2.1 1) fun _ =>
 Option.bind (b25.2.2.2.2.1[(1 : Int).toNat]?) fun e27 =>
 bif e27.Kind != 7
 then (Option.bind (W4) fun r28 =>
 Option.bind (idx b25.2.2.2.2.1 1) fun _ =>
 Option.bind (b25.2.2.2.2.1[(1 : Int).toNat]?) fun _ =>
 some (7, b25.2.2.1, b25.2.2.2.1, b25.2.2.2.2.1.set ((1 : Int).toNat) r28, b25.2.2.2.2.2.1, b25.2.2.2.2.2.2.1, b25.2.2.2.2.2.2.2))
 else (some (7, b25.2.2.1, b25.2.2.2.1, b25.2.2.2.2.1, b25.2.2.2.2.2.1, b25.2.2.2.2.2.2.1, b25.2.2.2.2.2.2.2)))
 else (some (6, b25.2.2.1, b25.2.2.2.1, b25.2.2.2.2.1, b25.2.2.2.2.2.1, b25.2.2.2.2.2.2.1, b25.2.2.2.2.2.2.2))) fun b31 =>
 some (Val.mk b31.1 b31.2.1 b31.2.2.1 b31.2.2.2.1 b31.2.2.2.2.1 b31.2.2.2.2.2.1 b31.2.2.2.2.2.2, b25.1))
 else (bif e4.Kind == 13
 then (Option.bind (rec_semtypebase_Source_nearMap d t e4 a3_3) fun r32 =>
 some (r32.1, r32.2))
 else (bif e4.Kind == 14
 then (Option.bind (rec_semtypebase_Source_nearFunction d t e4 a3_3) fun r33 =>
 some (r33.1, r33.2))
 else (bif e4.Kind == 16
 then (Option.bind (y4 d (e4.Kids.length : Int)) fun r34 =>
 Option.bind (idx e4.Kids r34.1) fun e35 =>
 Option.bind (rec_semtypebase_Source_near r34.2 t e35 a3_3) fun r36 =>
 some (r36.1, r36.2))
 else (bif e4.Kind == 17
 then (Option.bind (y4 d (e4.Kids.length : Int)) fun r37 =>
 Option.bind (idx e4.Kids r37.1) fun e38 =>
 Option.bind (rec_semtypebase_Source_near r37.2 t e38 a3_3) fun r39 =>
 Option.bind (j5 (V0 t e4) ((e4.Kids.length : Int).toNat + 1) (0, r39.1)) fun b49 =>
 some (b49, r39.2))
 else (bif e4.Kind == 19
 then (Option.bind (J9 d) fun r50 =>
 Option.bind (a30 r50.1 ([e4.Text] : List ByteArray)) fun r51 =>
 some (r51, r50.2))
 else (Option.bind (a1y n d 2) fun r52 =>
 some (r52.1, r52.2)))))))))))))))
def a1d (n : Nat) (rec_semtypebase_Source_Near : Semtypebase_Source -> Api_Type -> Int -> Int -> Option (Val × Semtypebase_Source)) (_ : Semtypebase_Source -> Api_Type -> Int -> Int -> Option (Val × Semtypebase_Source)) (_ : Semtypebase_Source -> Api_Type -> Api_TypeNode -> Int -> Option (Val × Semtypebase_Source)) (_ : Semtypebase_Source -> Api_Type -> Api_TypeNode -> Int -> Option (Val × Semtypebase_Source)) (d : Semtypebase_Source) (t : Api_Type) (a2_2 : Api_TypeNode) (a3_3 : Int) : Option (Val × Semtypebase_Source) :=
 Option.bind (y4 d 3) fun r1 =>
 Option.bind (j5 (V5 t a2_2 a3_3 rec_semtypebase_Source_Near) (r1.1.toNat + 2) ([], r1.1, r1.2)) fun b13 =>
 Option.bind (a1K n (wr .i64 ((a2_2.Kids.length : Int) - 1)) b13.1) fun r14 =>
 bif r14.2 != 0
 then (Option.bind (W4) fun r15 =>
 some (r15, b13.2))
 else (some (r14.1, b13.2))
def a12 (_ : Nat) (rec_semtypebase_Source_Near : Semtypebase_Source -> Api_Type -> Int -> Int -> Option (Val × Semtypebase_Source)) (_ : Semtypebase_Source -> Api_Type -> Int -> Int -> Option (Val × Semtypebase_Source)) (_ : Semtypebase_Source -> Api_Type -> Api_TypeNode -> Int -> Option (Val × Semtypebase_Source)) (_ : Semtypebase_Source -> Api_Type -> Api_TypeNode -> Int -> Option (Val × Semtypebase_Source)) (d : Semtypebase_Source) (t : Api_Type) (a2_2 : Api_TypeNode) (a3_3 : Int) : Option (Val × Semtypebase_Source) :=
 Option.bind (j5 (X8 t a2_2 a3_3 rec_semtypebase_Source_Near) ((a2_2.Fields.length : Int).toNat + 1) ([], [], 0, d)) fun b11 =>
 Option.bind (y4 b11.2.2 2) fun r12 =>
 Option.bind (bif r12.1 == 1
 then (Option.bind (y4 r12.2 2) fun r13 =>
 Option.bind (Z5 (b11.1.length + ([Key.mk r13.1 (⟨#[111, 116, 104, 101, 114]⟩ : ByteArray)] : List Key).length) 24) fun _ =>
 bif r13.1 == 0
 then (Option.bind (rec_semtypebase_Source_Near r13.2 t a2_2.Rest.1 (wr .i64 (a3_3 - 1))) fun r15 =>
 Option.bind (Z5 (b11.2.1.length + ([r15.1] : List Val).length) 128) fun _ =>
 some (b11.1 ++ ([Key.mk r13.1 (⟨#[111, 116, 104, 101, 114]⟩ : ByteArray)] : List Key), b11.2.1 ++ ([r15.1] : List Val), r15.2))
 else (bif r13.1 == 1
 then (Option.bind (rec_semtypebase_Source_Near r13.2 t a2_2.Rest.2 (wr .i64 (a3_3 - 1))) fun r17 =>
 Option.bind (Z5 (b11.2.1.length + ([r17.1] : List Val).length) 128) fun _ =>
 some (b11.1 ++ ([Key.mk r13.1 (⟨#[111, 116, 104, 101, 114]⟩ : ByteArray)] : List Key), b11.2.1 ++ ([r17.1] : List Val), r17.2))
 else (none)))
 else (some (b11.1, b11.2.1, r12.2))) fun b19 =>
 Option.bind (a1A b19.1 b19.2.1) fun r20 =>
 bif r20.2 != 0
 then (Option.bind (W4) fun r21 =>
 some (r21, b19.2.2))
 else (some (r20.1, b19.2.2))
def y9 : Nat -> (Semtypebase_Source -> Api_Type -> Int -> Int -> Option (Val × Semtypebase_Source)) × (Semtypebase_Source -> Api_Type -> Int -> Int -> Option (Val × Semtypebase_Source)) × (Semtypebase_Source -> Api_Type -> Api_TypeNode -> Int -> Option (Val × Semtypebase_Source)) × (Semtypebase_Source -> Api_Type -> Api_TypeNode -> Int -> Option (Val × Semtypebase_Source))
 | 0 => (fun _ _ _ _ => none, fun _ _ _ _ => none, fun _ _ _ _ => none, fun _ _ _ _ => none)
 | n + 1 => (a2V n ((y9 n).1) ((y9 n).2.1) ((y9 n).2.2.1) ((y9 n).2.2.2), a0G n ((y9 n).1) ((y9 n).2.1) ((y9 n).2.2.1) ((y9 n).2.2.2), a1d n ((y9 n).1) ((y9 n).2.1) ((y9 n).2.2.1) ((y9 n).2.2.2), a12 n ((y9 n).1) ((y9 n).2.1) ((y9 n).2.2.1) ((y9 n).2.2.2))
def a0o (n : Nat) : Semtypebase_Source -> Api_Type -> Int -> Int -> Option (Val × Semtypebase_Source) := (y9 n).1
def b03 (n : Nat) : Semtypebase_Source -> Api_Type -> Int -> Int -> Option (Val × Semtypebase_Source) := (y9 n).2.1
def a7v (n : Nat) : Semtypebase_Source -> Api_Type -> Api_TypeNode -> Int -> Option (Val × Semtypebase_Source) := (y9 n).2.2.1
def a9C (n : Nat) : Semtypebase_Source -> Api_Type -> Api_TypeNode -> Int -> Option (Val × Semtypebase_Source) := (y9 n).2.2.2
def a1L (r2 : ((List Api_TypeNode) × Int) × Semtypebase_Source) (r3 : Int × Semtypebase_Source) (x5 : Int × Semtypebase_Source × (Int × Int × Int × ByteArray × (List Int) × (List Api_Field) × Int × Int)) : Option (Fl (Int × Semtypebase_Source × (Int × Int × Int × ByteArray × (List Int) × (List Api_Field) × Int × Int)) (Semtypebase_Source × (Int × Int × Int × ByteArray × (List Int) × (List Api_Field) × Int × Int))) :=
 bif decide (x5.1 <= r3.1)
 then (Option.bind (y4 x5.2.1 (r2.1.1.length : Int)) fun r6 =>
 Option.bind (Z5 (x5.2.2.2.2.2.2.1.length + ([r6.1] : List Int).length) 8) fun _ =>
 some (.next (wr .i64 (x5.1 + 1), r6.2, (x5.2.2.1, x5.2.2.2.1, x5.2.2.2.2.1, x5.2.2.2.2.2.1, x5.2.2.2.2.2.2.1 ++ ([r6.1] : List Int), x5.2.2.2.2.2.2.2.1, x5.2.2.2.2.2.2.2.2.1, x5.2.2.2.2.2.2.2.2.2))))
 else (some (.done (x5.2.1, (x5.2.2.1, x5.2.2.2.1, x5.2.2.2.2.1, x5.2.2.2.2.2.1, x5.2.2.2.2.2.2.1, x5.2.2.2.2.2.2.2.1, x5.2.2.2.2.2.2.2.2.1, x5.2.2.2.2.2.2.2.2.2))))
def a1F (r2 : ((List Api_TypeNode) × Int) × Semtypebase_Source) (r3 : Int × Semtypebase_Source) (x4 : Int × Semtypebase_Source × ((List Api_TypeNode) × Int)) : Option (Fl (Int × Semtypebase_Source × ((List Api_TypeNode) × Int)) (Semtypebase_Source × ((List Api_TypeNode) × Int))) :=
 bif decide (x4.1 < 3)
 then (Option.bind (j5 (a1L r2 r3) (r3.1.toNat + 2) (0, x4.2.1, (14, 0, 0, (⟨#[]⟩ : ByteArray), [], [], 0, 0))) fun b8 =>
 Option.bind (Z5 (x4.2.2.1.length + ([Api_TypeNode.mk b8.2.1 b8.2.2.1 b8.2.2.2.1 b8.2.2.2.2.1 b8.2.2.2.2.2.1 b8.2.2.2.2.2.2.1 (b8.2.2.2.2.2.2.2.1, b8.2.2.2.2.2.2.2.2)] : List Api_TypeNode).length) 104) fun _ =>
 some (.next (wr .i64 (x4.1 + 1), b8.1, (x4.2.2.1 ++ ([Api_TypeNode.mk b8.2.1 b8.2.2.1 b8.2.2.2.1 b8.2.2.2.2.1 b8.2.2.2.2.2.1 b8.2.2.2.2.2.2.1 (b8.2.2.2.2.2.2.2.1, b8.2.2.2.2.2.2.2.2)] : List Api_TypeNode), x4.2.2.2))))
 else (some (.done (x4.2.1, (x4.2.2.1, x4.2.2.2))))
def a1J (r2 : ((List Api_TypeNode) × Int) × Semtypebase_Source) (r3 : Int × Semtypebase_Source) (b10 : Semtypebase_Source × ((List Api_TypeNode) × Int)) (n : Nat) (x11 : Int × Semtypebase_Source × ((List Val) × Bool × Int × Int × ByteArray × (List Val) × (List Key) × (List Ent) × (List ByteArray))) : Option (Fl (Int × Semtypebase_Source × ((List Val) × Bool × Int × Int × ByteArray × (List Val) × (List Key) × (List Ent) × (List ByteArray))) (Semtypebase_Source × ((List Val) × Bool × Int × Int × ByteArray × (List Val) × (List Key) × (List Ent) × (List ByteArray)))) :=
 bif decide (x11.1 < r3.1)
 then (Option.bind (y4 x11.2.1 (r2.1.1.length : Int)) fun r12 =>
 Option.bind (a0o n r12.2 (Api_Type.mk b10.2.1 b10.2.2) r12.1 2) fun r13 =>
 Option.bind (Z5 (x11.2.2.1.length + ([r13.1] : List Val).length) 128) fun _ =>
 some (.next (wr .i64 (x11.1 + 1), r13.2, (x11.2.2.1 ++ ([r13.1] : List Val), x11.2.2.2.1, x11.2.2.2.2.1, x11.2.2.2.2.2.1, x11.2.2.2.2.2.2.1, x11.2.2.2.2.2.2.2.1, x11.2.2.2.2.2.2.2.2.1, x11.2.2.2.2.2.2.2.2.2.1, x11.2.2.2.2.2.2.2.2.2.2))))
 else (some (.done (x11.2.1, (x11.2.2.1, x11.2.2.2.1, x11.2.2.2.2.1, x11.2.2.2.2.2.1, x11.2.2.2.2.2.2.1, x11.2.2.2.2.2.2.2.1, x11.2.2.2.2.2.2.2.2.1, x11.2.2.2.2.2.2.2.2.2.1, x11.2.2.2.2.2.2.2.2.2.2))))
def a4a (n : Nat) (d : List Int) (t : List Int) : Option (Api_Type × Int × Ent) :=
 Option.bind (y4 (Semtypebase_Source.mk d 0) 4) fun r1 =>
 Option.bind (a0q r1.2 (wr .i64 (1 + r1.1))) fun r2 =>
 Option.bind (y4 r2.2 3) fun r3 =>
 Option.bind (j5 (a1F r2 r3) ((3 : Int).toNat + 1) (0, r3.2, (r2.1.1, r2.1.2))) fun b10 =>
 Option.bind (j5 (a1J r2 r3 b10 n) (r3.1.toNat + 1) (0, Semtypebase_Source.mk t 0, ([], false, 0, 0, (⟨#[]⟩ : ByteArray), [], [], [], []))) fun b15 =>
 Option.bind (y4 b15.1 3) fun r16 =>
 Option.bind (bif r16.1 == 1
 then (some (r16.2, (b15.2.1, true, b15.2.2.2.1, b15.2.2.2.2.1, b15.2.2.2.2.2.1, b15.2.2.2.2.2.2.1, b15.2.2.2.2.2.2.2.1, b15.2.2.2.2.2.2.2.2.1, b15.2.2.2.2.2.2.2.2.2)))
 else (Option.bind (y4 r16.2 (r2.1.1.length : Int)) fun r17 =>
 Option.bind (a0o n r17.2 (Api_Type.mk b10.2.1 b10.2.2) r17.1 2) fun r18 =>
 some (r18.2, (b15.2.1, b15.2.2.1, r18.1.Kind, r18.1.Int_, r18.1.Text, r18.1.Kids, r18.1.Keys, r18.1.Entries, r18.1.Labels)))) fun b19 =>
 some (Api_Type.mk b10.2.1 b10.2.2, (r2.1.1.length : Int), Ent.mk b19.2.1 b19.2.2.1 (Val.mk b19.2.2.2.1 b19.2.2.2.2.1 b19.2.2.2.2.2.1 b19.2.2.2.2.2.2.1 b19.2.2.2.2.2.2.2.1 b19.2.2.2.2.2.2.2.2.1 b19.2.2.2.2.2.2.2.2.2))
def a0e (t : Api_Type) (k : Int) : Option Bool :=
 Option.bind (bif decide (0 <= k)
 then (some (decide (k < (t.Nodes.length : Int))))
 else (some false)) fun q1 =>
 some q1
def a3u (d : Api_Type) (t : Api_TypeNode) (x1 : Int) : Option (Fl Int (Sum Unit Bool)) :=
 bif decide (x1 < (t.Kids.length : Int))
 then (Option.bind (idx t.Kids x1) fun e2 =>
 Option.bind (a0e d e2) fun r3 =>
 bif !r3
 then (some (.done (.inr false)))
 else (some (.next (wr .i64 (x1 + 1)))))
 else (some (.done (.inl ())))
def a3w (d : Api_Type) (t : Api_TypeNode) (x24 : Int) : Option (Fl Int (Sum Unit Bool)) :=
 bif decide (x24 < (t.Fields.length : Int))
 then (Option.bind (idx t.Fields x24) fun e25 =>
 Option.bind (a0e d e25.Node) fun r26 =>
 Option.bind (bif !r26
 then (some true)
 else (Option.bind (a0V e25.Key_) fun r27 =>
 some (!r27))) fun q28 =>
 Option.bind (bif q28
 then (some true)
 else (Option.bind (bif decide (0 < x24)
 then (Option.bind (idx t.Fields (wr .i64 (x24 - 1))) fun e29 =>
 Option.bind (V1 e29.Key_ e25.Key_) fun r30 =>
 some (decide (0 <= r30)))
 else (some false)) fun q31 =>
 some q31)) fun q32 =>
 bif q32
 then (some (.done (.inr false)))
 else (some (.next (wr .i64 (x24 + 1)))))
 else (some (.done (.inl ())))
def a4Y (d : Api_Type) (t : Api_TypeNode) : Option Bool :=
 Option.bind (j5 (a3u d t) ((t.Kids.length : Int).toNat + 1) 0) fun b4 =>
 w5 (fun _ =>
 Option.bind (bif t.Kind == 4
 then (some true)
 else (some (t.Kind == 6))) fun q7 =>
 Option.bind (bif q7
 then (some true)
 else (some (t.Kind == 19))) fun q8 =>
 Option.bind (bif !(t.Kind == 3)
 then (Option.bind (bif t.Lo != 0
 then (some true)
 else (some (t.Hi != 0))) fun q9 =>
 some q9)
 else (some false)) fun q10 =>
 Option.bind (bif q10
 then (some true)
 else (Option.bind (bif !q8
 then (some (!(V3 t.Text (⟨#[]⟩ : ByteArray))))
 else (some false)) fun q11 =>
 some q11)) fun q12 =>
 bif q12
 then (some false)
 else (Option.bind (bif t.Kind != 13
 then (Option.bind (bif decide (0 < (t.Fields.length : Int))
 then (some true)
 else (some (!(b0J t.Rest (0, 0))))) fun q13 =>
 some q13)
 else (some false)) fun q14 =>
 bif q14
 then (some false)
 else (bif t.Kind == 3
 then (Option.bind (bif (t.Kids.length : Int) == 0
 then (some (decide (t.Lo <= t.Hi)))
 else (some false)) fun q15 =>
 some q15)
 else (bif t.Kind == 4
 then (Option.bind (bif (t.Kids.length : Int) == 0
 then (some (decide ((t.Text.size : Int) <= 64)))
 else (some false)) fun q16 =>
 some q16)
 else (bif t.Kind == 6
 then (Option.bind (bif (t.Kids.length : Int) == 0
 then (Option.bind (a1r t.Text) fun r17 =>
 some r17)
 else (some false)) fun q18 =>
 some q18)
 else (bif t.Kind == 19
 then (Option.bind (bif (t.Kids.length : Int) == 0
 then (Option.bind (a1g t.Text) fun r19 =>
 some r19)
 else (some false)) fun q20 =>
 some q20)
 else (Option.bind (bif t.Kind == 1
 then (some (t.Kind == 1))
 else (bif t.Kind == 2
 then (some (t.Kind == 2))
 else (bif t.Kind == 5
 then (some (t.Kind == 5))
 else (bif t.Kind == 7
 then (some (t.Kind == 7))
 else (bif t.Kind == 8
 then (some (t.Kind == 8))
 else (bif t.Kind == 9
 then (some (t.Kind == 9))
 else (bif t.Kind == 11
 then (some (t.Kind == 11))
 else (some (t.Kind == 15))))))))) fun b21 =>
 bif b21
 then (some ((t.Kids.length : Int) == 0))
 else (bif t.Kind == 10
 then (some (decide ((t.Kids.length : Int) <= 4)))
 else (bif t.Kind == 12
 then (some ((t.Kids.length : Int) == 2))
 else (bif t.Kind == 14
 then (Option.bind (bif decide (1 <= (t.Kids.length : Int))
 then (some (decide ((t.Kids.length : Int) <= 5)))
 else (some false)) fun q22 =>
 some q22)
 else (Option.bind (bif t.Kind == 16
 then (some (t.Kind == 16))
 else (some (t.Kind == 17))) fun b23 =>
 bif b23
 then (some (decide (1 <= (t.Kids.length : Int))))
 else (bif t.Kind == 18
 then (some ((t.Kids.length : Int) == 1))
 else (bif t.Kind == 13
 then (Option.bind (j5 (a3w d t) ((t.Fields.length : Int).toNat + 1) 0) fun b33 =>
 w5 (fun _ =>
 Option.bind (bif (t.Kids.length : Int) == 0
 then (Option.bind (a0e d t.Rest.1) fun r36 =>
 some r36)
 else (some false)) fun q37 =>
 Option.bind (bif q37
 then (Option.bind (a0e d t.Rest.2) fun r38 =>
 some r38)
 else (some false)) fun q39 =>
 some q39) (fun y35 =>
 some y35) b33)
 else (some false)))))))))))))) (fun y6 =>
 some y6) b4
def a3y (n_0 : Api_TypeNode) : Option Bool :=
 Option.bind (bif n_0.Kind == 16
 then (some true)
 else (some (n_0.Kind == 17))) fun q1 =>
 Option.bind (bif q1
 then (some true)
 else (some (n_0.Kind == 18))) fun q2 =>
 some q2
def a1w (d : Api_Type) (x2 : Int) : Option (Fl Int (Sum Unit Int)) :=
 bif decide (x2 < (d.Nodes.length : Int))
 then (Option.bind (idx d.Nodes x2) fun e3 =>
 Option.bind (a4Y d e3) fun r4 =>
 bif !r4
 then (some (.done (.inr 1)))
 else (some (.next (wr .i64 (x2 + 1)))))
 else (some (.done (.inl ())))
def Q9 (d : Api_Type) (x10 : (List Bool) × Int) (x11 : (List Bool) × Bool × Int) : Option (Fl ((List Bool) × Bool × Int) ((List Bool) × Bool)) :=
 Option.bind (idx d.Nodes x10.2) fun e12 =>
 Option.bind (a3y e12) fun r13 =>
 Option.bind (bif r13
 then (Option.bind (idx d.Nodes x10.2) fun e14 =>
 some (decide (x11.2.2 < (e14.Kids.length : Int))))
 else (some false)) fun q15 =>
 bif q15
 then (Option.bind (bif x11.2.1
 then (Option.bind (idx d.Nodes x10.2) fun e16 =>
 Option.bind (idx e16.Kids x11.2.2) fun e17 =>
 Option.bind (idx x11.1 e17) fun _ =>
 Option.bind (x11.1[e17.toNat]?) fun e19 =>
 some e19)
 else (some false)) fun q20 =>
 some (.next (x11.1, q20, wr .i64 (x11.2.2 + 1))))
 else (some (.done (x11.1, x11.2.1)))
def V9 (d : Api_Type) (n : Nat) (x10 : (List Bool) × Int) : Option (Fl ((List Bool) × Int) (List Bool)) :=
 bif decide (x10.2 < (d.Nodes.length : Int))
 then (Option.bind (j5 (Q9 d x10) n (x10.1, true, 0)) fun b21 =>
 Option.bind (idx b21.1 x10.2) fun _ =>
 Option.bind (b21.1[x10.2.toNat]?) fun e23 =>
 Option.bind (bif e23
 then (some true)
 else (some b21.2)) fun q24 =>
 Option.bind (idx b21.1 x10.2) fun _ =>
 Option.bind (b21.1[x10.2.toNat]?) fun _ =>
 some (.next (b21.1.set x10.2.toNat q24, wr .i64 (x10.2 + 1))))
 else (some (.done x10.1))
def V8 (d : Api_Type) (n : Nat) (x9 : (List Bool) × Int) : Option (Fl ((List Bool) × Int) (List Bool)) :=
 bif decide (x9.2 < (d.Nodes.length : Int))
 then (Option.bind (j5 (V9 d n) ((d.Nodes.length : Int).toNat + 1) (x9.1, 0)) fun b27 =>
 some (.next (b27, wr .i64 (x9.2 + 1))))
 else (some (.done x9.1))
def a0H (x29 : (List Bool) × Int) : Option (Fl ((List Bool) × Int) (Sum (List Bool) (Int × (List Bool)))) :=
 bif decide (x29.2 < (x29.1.length : Int))
 then (Option.bind (idx x29.1 x29.2) fun _ =>
 Option.bind (x29.1[x29.2.toNat]?) fun e31 =>
 bif !e31
 then (some (.done (.inr (3, x29.1))))
 else (some (.next (x29.1, wr .i64 (x29.2 + 1)))))
 else (some (.done (.inl x29.1)))
def a1e (n : Nat) (d : Api_Type) : Option Int :=
 Option.bind (a0e d d.Root) fun r1 =>
 bif !r1
 then (some 1)
 else (Option.bind (j5 (a1w d) ((d.Nodes.length : Int).toNat + 1) 0) fun b5 =>
 w5 (fun _ =>
 Option.bind (a6y (d.Nodes.length : Int) (d.Nodes.length : Int) 1) fun m8 =>
 Option.bind (j5 (V8 d n) ((d.Nodes.length : Int).toNat + 1) (List.replicate m8 (false : Bool), 0)) fun b28 =>
 Option.bind (j5 a0H ((b28.length : Int).toNat + 1) (b28, 0)) fun b32 =>
 w5 (fun _ =>
 some 0) (fun y34 =>
 some y34.1) b32) (fun y7 =>
 some y7) b5)
def a1c (t : Api_Type) (g : Api_Goal) (x3 : Int) : Option (Fl Int (Sum Unit Bool)) :=
 bif decide (x3 < ((g.Pos ++ g.Neg).length : Int))
 then (Option.bind (idx (g.Pos ++ g.Neg) x3) fun e4 =>
 Option.bind (a0e t e4) fun r5 =>
 bif !r5
 then (some (.done (.inr false)))
 else (some (.next (wr .i64 (x3 + 1)))))
 else (some (.done (.inl ())))
def a10 (t : Api_Type) (g : Api_Goal) : Option Bool :=
 Option.bind (Z5 (0 + g.Pos.length) 8) fun _ =>
 Option.bind (Z5 (g.Pos.length + g.Neg.length) 8) fun _ =>
 Option.bind (j5 (a1c t g) (((g.Pos ++ g.Neg).length : Int).toNat + 1) 0) fun b6 =>
 w5 (fun _ =>
 some true) (fun y8 =>
 some y8) b6
def K1 (d : Api_Type) (t : List Int) (a2_2 : Int) (x6 : Bool × Int) : Option (Fl (Bool × Int) Bool) :=
 Option.bind (bif x6.1
 then (some (decide (x6.2 < ((([a2_2] : List Int) ++ t).length : Int))))
 else (some false)) fun q7 =>
 bif q7
 then (Option.bind (idx (([a2_2] : List Int) ++ t) x6.2) fun e8 =>
 Option.bind (idx d.Nodes e8) fun e9 =>
 Option.bind (bif e9.Kind == 14
 then (Option.bind (idx d.Nodes a2_2) fun e10 =>
 some ((e9.Kids.length : Int) == (e10.Kids.length : Int)))
 else (some false)) fun q11 =>
 some (.next (q11, wr .i64 (x6.2 + 1))))
 else (some (.done x6.1))
def a09 (n : Nat) (d : Api_Type) (t : List Int) (a2_2 : Int) : Option Bool :=
 Option.bind (a2e n d t a2_2) fun r1 =>
 Option.bind (Z5 (([a2_2] : List Int).length + t.length) 8) fun _ =>
 Option.bind (Option.bind (a1e n d) fun r3 =>
 bif r3 == 0
 then (Option.bind (a10 d (Api_Goal.mk (([a2_2] : List Int) ++ t) ([] : List Int) false)) fun r4 =>
 some r4)
 else (some false)) fun b5 =>
 Option.bind (j5 (K1 d t a2_2) (((([a2_2] : List Int) ++ t).length : Int).toNat + 1) (b5, 0)) fun b12 =>
 Option.bind (bif (r1.2 == 0) == b12
 then (Option.bind (bif b12
 then (some true)
 else (some (r1.2 == 1))) fun q13 =>
 some q13)
 else (some false)) fun q14 =>
 some q14
def a1H (n : Nat) (l : List Int) (pos : List Int) (neg : Int) (raw : Api_Type) : Option Bool :=
 Option.bind (a3Z ([l] : List (List Int))) fun r1 =>
 Option.bind (bif !r1
 then (some true)
 else (some (decide (3 < (pos.length : Int))))) fun q2 =>
 Option.bind (bif q2
 then (some true)
 else (some (decide (30 < (raw.Nodes.length : Int))))) fun q3 =>
 bif q3
 then (Option.bind (a2n n) fun r4 =>
 some r4)
 else (Option.bind (a4a n l ([] : List Int)) fun r5 =>
 Option.bind (b1y (wr .u64 neg) 3) fun d6 =>
 Option.bind (a09 n r5.1 pos neg) fun r7 =>
 Option.bind (bif r7
 then (Option.bind (a09 n raw pos neg) fun r8 =>
 some r8)
 else (some false)) fun q9 =>
 Option.bind (bif q9
 then (Option.bind (a09 n r5.1 pos (wr .i64 (r5.2.1 + (wr .i64 d6)))) fun r10 =>
 some r10)
 else (some false)) fun q11 =>
 Option.bind (bif q11
 then (Option.bind (a2n n) fun r12 =>
 some r12)
 else (some false)) fun q13 =>
 some q13)
end Go.Qx
end
section
namespace Go.Pl
open Go Go.RowKit Go.Sx Go.Qx
theorem Z8 (x : Int) : wr .i64 x = w64 x := rfl
theorem a0r {α : Type} (b : Bool) (x y : α) : (bif b then x else y) = if b = true then x else y := by cases b <;> rfl
theorem a4e {α : Type} (o : Option α) : (Option.bind o fun x => some x) = o := by cases o <;> rfl
theorem V6 {α : Type} (l : List α) : ((l.length : Int)).toNat = l.length := by omega
theorem b8i (s : ByteArray) : ((s.size : Int)).toNat = s.size := by omega
theorem K7 {x : Int} (h1 : -9223372036854775808 <= x) (h2 : x <= 9223372036854775807) : w64 x = x := by
 unfold w64
 rw [IntKind.wrap_i64]
 omega
theorem v8 {α : Type} {xs : List α} {i : Nat} {x : α} (h : xs[i]? = some x) : idx xs (i : Int) = some x := by
 unfold idx
 rw [if_pos (by omega)]
 simpa using h
theorem Z7 {n bytes : Nat} (h : n * bytes <= 140737488355328) : Z5 n bytes = some () := by unfold Z5; rw [if_pos h]
theorem b43 {σ α St β : Type} {step : St -> Option (Fl St β)} (xs : List α) (pack : σ -> Nat -> St) (F : σ -> α -> σ) (I : Nat -> σ -> Prop) (D : σ -> β)
 (hstep : ∀ i s x, xs[i]? = some x -> I i s -> step (pack s i) = some (.next (pack (F s x) (i + 1))) /\ I (i + 1) (F s x))
 (hend : ∀ s, I xs.length s -> step (pack s xs.length) = some (.done (D s))) (s0 : σ) (h0 : I 0 s0) (k : Nat) (hk : xs.length + 1 <= k) :
 j5 step k (pack s0 0) = some (D (xs.foldl F s0)) := by
 have key : ∀ (n i : Nat) (s : σ) (k : Nat), i + n = xs.length -> n + 1 <= k -> I i s -> j5 step k (pack s i) = some (D ((xs.drop i).foldl F s)) := by
  intro n
  induction n with
  | zero =>
    intro i s k hi hk hI
    have e : i = xs.length := by omega
    subst e
    obtain ⟨k, rfl⟩ : ∃ m, k = m + 1 := ⟨k - 1, by omega⟩
    simp [j5, hend s hI]
  | succ n ih =>
    intro i s k hi hk hI
    have hlt : i < xs.length := by omega
    obtain ⟨k, rfl⟩ : ∃ m, k = m + 1 := ⟨k - 1, by omega⟩
    obtain ⟨h1, h2⟩ := hstep i s xs[i] (List.getElem?_eq_getElem hlt) hI
    rw [List.drop_eq_getElem_cons hlt, List.foldl_cons]
    simp only [j5, h1, Option.bind_some]
    exact ih (i + 1) _ k (by omega) (by omega) h2
 have := key xs.length 0 s0 k (by omega) hk h0
 simpa using this
def a0Y (s : ByteArray) : Nat := s.size + 1
def J0 : List ByteArray -> Nat
 | [] => 0
 | s :: r => a0Y s + J0 r
def a2y (k : Key) : Nat := 1 + a0Y k.Text + 1
def w4 : List Key -> Nat
 | [] => 0
 | s :: r => a2y s + w4 r
mutual
def Y1 : Val -> Nat
 | .mk _ _ t kids keys ents labs => 1 + 1 + a0Y t + (v7 kids + 1) + (w4 keys + 1) + (w9 ents + 1) + (J0 labs + 1) + 1
def v7 : List Val -> Nat
 | [] => 0
 | x :: r => Y1 x + v7 r
def a4Z : Ent -> Nat
 | .mk args _ res => (v7 args + 1) + 1 + Y1 res + 1
def w9 : List Ent -> Nat
 | [] => 0
 | x :: r => a4Z x + w9 r
end
theorem a5G (v : Val) : Y1 v = 1 + 1 + a0Y v.Text + (v7 v.Kids + 1) + (w4 v.Keys + 1) + (w9 v.Entries + 1) + (J0 v.Labels + 1) + 1 := by
 cases v; simp only [Y1, Val.Text, Val.Kids, Val.Keys, Val.Entries, Val.Labels]
theorem a13 (v : Ent) : a4Z v = (v7 v.Args + 1) + 1 + Y1 v.Result + 1 := by
 cases v; simp only [a4Z, Ent.Args, Ent.Result]
theorem a4Q {x : Val} : ∀ {l : List Val}, x ∈ l -> Y1 x <= v7 l
 | y :: r, h => by
   simp only [v7]
   rcases List.mem_cons.1 h with rfl | h
   ·omega
   ·have := a4Q h; omega
theorem a2l {x : Ent} : ∀ {l : List Ent}, x ∈ l -> a4Z x <= w9 l
 | y :: r, h => by
   simp only [w9]
   rcases List.mem_cons.1 h with rfl | h
   ·omega
   ·have := a2l h; omega
theorem b0b : ∀ (l : List Val), l.length <= v7 l
 | [] => Nat.le_refl _
 | x :: r => by have := b0b r; have := a5G x; simp only [v7, List.length_cons]; omega
theorem a6b : ∀ (l : List Ent), l.length <= w9 l
 | [] => Nat.le_refl _
 | x :: r => by have := a6b r; have := a13 x; simp only [w9, List.length_cons]; omega
theorem b0L : ∀ (l : List Key), l.length <= w4 l
 | [] => Nat.le_refl _
 | x :: r => by have := b0L r; simp only [w4, a2y, List.length_cons]; omega
theorem a7H : ∀ (l : List ByteArray), l.length <= J0 l
 | [] => Nat.le_refl _
 | x :: r => by have := a7H r; simp only [J0, a0Y, List.length_cons]; omega
theorem a2f (l m : List Val) : v7 (l ++ m) = v7 l + v7 m := by
 induction l with
 | nil => simp [v7]
 | cons x r ih => simp only [List.cons_append, v7, ih]; omega
theorem b42 (v : Val) : 8 <= Y1 v := by rw [a5G]; unfold a0Y; omega
end Go.Pl
namespace Go.Pl
open Go Go.RowKit Go.Sx Go.Qx
theorem a22 {α : Type} {l : List α} {i : Nat} {x : α} (h : l[i]? = some x) : l.take (i + 1) = l.take i ++ [x] := by
 rw [List.take_add_one, h]; rfl
end Go.Pl
end
section
namespace Go.Pl
open Go Go.RowKit Go.Sx Go.Qx
def tn (x y : Int) : Int := if x = 0 then y else x
def cI (x y : Int) : Int := if x < y then -1 else if y < x then 1 else 0
def lx : List Int -> List Int -> Int
 | [], [] => 0
 | [], _ :: _ => -1
 | _ :: _, [] => 1
 | x :: xs, y :: ys => tn (cI x y) (lx xs ys)
theorem a8v (x y z : Int) : tn (tn x y) z = tn x (tn y z) := by unfold tn; split <;> simp_all
theorem b2t (x : Int) : tn x 0 = x := by unfold tn; split <;> simp_all
theorem a8D (x : Int) : tn 0 x = x := by simp [tn]
theorem X0 (x y : Int) : (x < y /\ cI x y = -1) \/ (y < x /\ cI x y = 1) \/ (x = y /\ cI x y = 0) := by
 unfold cI
 by_cases h : x < y
 ·left; simp [h]
 ·by_cases h2 : y < x
  ·right; left; simp [h, h2]
  ·right; right; simp [h, h2]; omega
theorem b5z : ∀ a b : List Int, lx b a = - lx a b
 | [], [] => by simp [lx]
 | [], _ :: _ => by simp [lx]
 | _ :: _, [] => by simp [lx]
 | x :: xs, y :: ys => by
   have := b5z xs ys
   rcases X0 x y with ⟨h1, h⟩ | ⟨h1, h⟩ | ⟨h1, h⟩ <;> rcases X0 y x with ⟨h2, k⟩ | ⟨h2, k⟩ | ⟨h2, k⟩ <;> simp [lx, h, k, tn] <;> omega
theorem b9G : ∀ a b c : List Int, lx a b <= 0 -> lx b c <= 0 -> lx a c <= 0
 | [], _, [], _, _ => by simp [lx]
 | [], _, _ :: _, _, _ => by simp [lx]
 | _ :: _, [], _, h, _ => by simp [lx] at h
 | _ :: _, _ :: _, [], _, h => by simp [lx] at h
 | x :: xs, y :: ys, z :: zs, h1, h2 => by
   have := b9G xs ys zs
   rcases X0 x y with ⟨p1, h⟩ | ⟨p1, h⟩ | ⟨p1, h⟩ <;> rcases X0 y z with ⟨p2, k⟩ | ⟨p2, k⟩ | ⟨p2, k⟩ <;>
    rcases X0 x z with ⟨p3, l⟩ | ⟨p3, l⟩ | ⟨p3, l⟩ <;> simp [lx, h, k, l, tn] at h1 h2 ⊢ <;> first | omega | (exact this (by omega) (by omega))
theorem c5P : ∀ a : List Int, lx a a = 0 := by intro a; have := b5z a a; omega
def cBs : List UInt8 -> List UInt8 -> Int
 | [], [] => 0
 | [], _ :: _ => -1
 | _ :: _, [] => 1
 | x :: xs, y :: ys => tn (cI x.toNat y.toNat) (cBs xs ys)
def eBs : List UInt8 -> List Int
 | [] => [0]
 | x :: r => ((x.toNat : Int) + 1) :: eBs r
theorem c5p (x y : Int) : cI (x + 1) (y + 1) = cI x y := by
 unfold cI
 by_cases h : x < y
 ·rw [if_pos (by omega), if_pos h]
 ·rw [if_neg (by omega), if_neg h]
  by_cases h2 : y < x
  ·rw [if_pos (by omega), if_pos h2]
  ·rw [if_neg (by omega), if_neg h2]
theorem c6F : ∀ (a b : List UInt8) (r s : List Int), lx (eBs a ++ r) (eBs b ++ s) = tn (cBs a b) (lx r s)
 | [], [], r, s => by simp [eBs, lx, cBs, cI, a8D]
 | [], y :: ys, r, s => by
   have : cI 0 ((y.toNat : Int) + 1) = -1 := by unfold cI; rw [if_pos (by omega)]
   simp [eBs, lx, cBs, this, tn]
 | x :: xs, [], r, s => by
   have : cI ((x.toNat : Int) + 1) 0 = 1 := by unfold cI; rw [if_neg (by omega), if_pos (by omega)]
   simp [eBs, lx, cBs, this, tn]
 | x :: xs, y :: ys, r, s => by
   simp only [eBs, List.cons_append, lx, cBs, c5p, c6F xs ys, a8v]
def cS (a b : ByteArray) : Int := cBs a.data.toList b.data.toList
def eS (a : ByteArray) : List Int := eBs a.data.toList
theorem pfS (a b : ByteArray) (r s : List Int) : lx (eS a ++ r) (eS b ++ s) = tn (cS a b) (lx r s) := c6F _ _ r s
def cK (a b : Key) : Int := tn (cI a.Kind b.Kind) (cS a.Text b.Text)
def eK (a : Key) : List Int := a.Kind :: eS a.Text
theorem pfK (a b : Key) (r s : List Int) : lx (eK a ++ r) (eK b ++ s) = tn (cK a b) (lx r s) := by
 simp only [eK, List.cons_append, lx, pfS, cK, a8v]
def cL {α : Type} (c : α -> α -> Int) : List α -> List α -> Int
 | [], _ => 0
 | _ :: _, [] => 0
 | x :: xs, y :: ys => tn (c x y) (cL c xs ys)
def cN {α : Type} (c : α -> α -> Int) (xs ys : List α) : Int := tn (cI (xs.length : Int) (ys.length : Int)) (cL c xs ys)
def eN {α : Type} (e : α -> List Int) (xs : List α) : List Int := (xs.length : Int) :: xs.flatMap e
theorem pfL {α : Type} {c : α -> α -> Int} {e : α -> List Int} : ∀ (xs ys : List α) (r s : List Int), (∀ x ∈ xs, ∀ y r s, lx (e x ++ r) (e y ++ s) = tn (c x y) (lx r s)) -> xs.length = ys.length ->
 lx (xs.flatMap e ++ r) (ys.flatMap e ++ s) = tn (cL c xs ys) (lx r s)
 | [], [], r, s, _, _ => by simp [cL, a8D]
 | [], _ :: _, _, _, _, h => by simp at h
 | _ :: _, [], _, _, _, h => by simp at h
 | x :: xs, y :: ys, r, s, hc, h => by
   simp only [List.flatMap_cons, List.append_assoc, cL]
   rw [hc x (by simp), pfL xs ys r s (fun z hz => hc z (by simp [hz])) (by simpa using h), a8v]
theorem pfN {α : Type} {c : α -> α -> Int} {e : α -> List Int} (xs ys : List α) (r s : List Int) (hc : ∀ x ∈ xs, ∀ y r s, lx (e x ++ r) (e y ++ s) = tn (c x y) (lx r s)) :
 lx (eN e xs ++ r) (eN e ys ++ s) = tn (cN c xs ys) (lx r s) := by
 simp only [eN, List.cons_append, lx, cN, a8v]
 rcases X0 (xs.length : Int) (ys.length : Int) with ⟨_, h⟩ | ⟨_, h⟩ | ⟨h1, h⟩
 ·simp [h, tn]
 ·simp [h, tn]
 ·rw [h, a8D, a8D, pfL xs ys r s hc (by omega)]
def bI (b : Bool) : Int := if b then 0 else 1
mutual
def cV : Val -> Val -> Int
 | .mk k n t kids keys ents labs, b => tn (cI k b.Kind) (tn (cI n b.Int_) (tn (cS t b.Text) (tn (cN cK keys b.Keys) (tn (tn (cI (kids.length : Int) (b.Kids.length : Int)) (cVs kids b.Kids)) (tn (tn (cI (ents.length : Int) (b.Entries.length : Int)) (cEs ents b.Entries)) (cN cS labs b.Labels))))))
def cVs : List Val -> List Val -> Int
 | [], _ => 0
 | _ :: _, [] => 0
 | x :: xs, y :: ys => tn (cV x y) (cVs xs ys)
def cE : Ent -> Ent -> Int
 | .mk args f res, b => tn (tn (cI (args.length : Int) (b.Args.length : Int)) (cVs args b.Args)) (tn (cI (bI f) (bI b.Fails)) (cV res b.Result))
def cEs : List Ent -> List Ent -> Int
 | [], _ => 0
 | _ :: _, [] => 0
 | x :: xs, y :: ys => tn (cE x y) (cEs xs ys)
end
theorem b9u : ∀ xs ys : List Val, cVs xs ys = cL cV xs ys
 | [], _ => by simp [cVs, cL]
 | _ :: _, [] => by simp [cVs, cL]
 | x :: xs, y :: ys => by simp only [cVs, cL, b9u xs ys]
theorem c3i : ∀ xs ys : List Ent, cEs xs ys = cL cE xs ys
 | [], _ => by simp [cEs, cL]
 | _ :: _, [] => by simp [cEs, cL]
 | x :: xs, y :: ys => by simp only [cEs, cL, c3i xs ys]
theorem c5d (a b : Val) : cV a b = tn (cI a.Kind b.Kind) (tn (cI a.Int_ b.Int_) (tn (cS a.Text b.Text) (tn (cN cK a.Keys b.Keys) (tn (cN cV a.Kids b.Kids) (tn (cN cE a.Entries b.Entries) (cN cS a.Labels b.Labels)))))) := by
 cases a; simp only [cV, b9u, c3i, cN, Val.Kind, Val.Int_, Val.Text, Val.Keys, Val.Kids, Val.Entries, Val.Labels]
theorem c47 (a b : Ent) : cE a b = tn (cN cV a.Args b.Args) (tn (cI (bI a.Fails) (bI b.Fails)) (cV a.Result b.Result)) := by
 cases a; simp only [cE, b9u, cN, Ent.Args, Ent.Fails, Ent.Result]
mutual
def eV : Val -> List Int
 | .mk k n t kids keys ents labs => k :: n :: (eS t ++ (eN eK keys ++ (((kids.length : Int) :: eVs kids) ++ (((ents.length : Int) :: eEs ents) ++ eN eS labs))))
def eVs : List Val -> List Int
 | [] => []
 | x :: xs => eV x ++ eVs xs
def eE : Ent -> List Int
 | .mk args f res => ((args.length : Int) :: eVs args) ++ (bI f :: eV res)
def eEs : List Ent -> List Int
 | [] => []
 | x :: xs => eE x ++ eEs xs
end
theorem b9q : ∀ xs : List Val, eVs xs = xs.flatMap eV
 | [] => by simp [eVs]
 | x :: xs => by simp only [eVs, List.flatMap_cons, b9q xs]
theorem c2A : ∀ xs : List Ent, eEs xs = xs.flatMap eE
 | [] => by simp [eEs]
 | x :: xs => by simp only [eEs, List.flatMap_cons, c2A xs]
theorem c4T (a : Val) : eV a = a.Kind :: a.Int_ :: (eS a.Text ++ (eN eK a.Keys ++ (eN eV a.Kids ++ (eN eE a.Entries ++ eN eS a.Labels)))) := by
 cases a; simp only [eV, b9q, c2A, eN, Val.Kind, Val.Int_, Val.Text, Val.Keys, Val.Kids, Val.Entries, Val.Labels]
theorem c42 (a : Ent) : eE a = eN eV a.Args ++ (bI a.Fails :: eV a.Result) := by
 cases a; simp only [eE, b9q, eN, Ent.Args, Ent.Fails, Ent.Result]
theorem c3u : ∀ n : Nat, (∀ a : Val, Y1 a <= n -> ∀ b r s, lx (eV a ++ r) (eV b ++ s) = tn (cV a b) (lx r s)) /\ (∀ a : Ent, a4Z a <= n -> ∀ b r s, lx (eE a ++ r) (eE b ++ s) = tn (cE a b) (lx r s)) := by
 intro n
 induction n with
 | zero => exact ⟨fun a h => by have := b42 a; omega, fun a h => by have := a13 a; omega⟩
 | succ n ih =>
   refine ⟨fun a h b r s => ?_, fun a h b r s => ?_⟩
   ·have hb := a5G a
    rw [c4T a, c4T b, c5d]
    simp only [List.cons_append, List.append_assoc, lx, a8v]
    rw [pfS, pfN a.Keys b.Keys _ _ (fun x _ y r s => pfK x y r s), pfN a.Kids b.Kids _ _ (fun x hx => ih.1 x (by have := a4Q hx; omega)),
     pfN a.Entries b.Entries _ _ (fun x hx => ih.2 x (by have := a2l hx; omega)), pfN a.Labels b.Labels _ _ (fun x _ y r s => pfS x y r s)]
   ·have hb := a13 a
    rw [c42 a, c42 b, c47]
    simp only [List.append_assoc, a8v]
    rw [pfN a.Args b.Args _ _ (fun x hx => ih.1 x (by have := a4Q hx; omega))]
    simp only [List.cons_append, lx]
    rw [ih.1 a.Result (by omega)]
theorem c7x (a b : Val) : cV a b = lx (eV a) (eV b) := by
 have := (c3u (Y1 a)).1 a (Nat.le_refl _) b [] []
 simpa [lx, b2t] using this.symm
theorem c5z (a : Val) : cV a a = 0 := by rw [c7x]; exact c5P _
end Go.Pl
namespace Go.Pl
open Go Go.RowKit Go.Sx Go.Qx
theorem c1Q (a b : Int) : a0K a b = some (cI a b) := by
 unfold a0K a6V
 simp only [a0r, bne_self_eq_false, Option.bind_some, Bool.false_eq_true, if_false]
 rcases X0 a b with ⟨h, e⟩ | ⟨h, e⟩ | ⟨h, e⟩
 ·rw [if_pos (by simpa using h), e]
 ·rw [if_neg (by simp; omega), if_pos (by simpa using h), e]
 ·rw [if_neg (by simp; omega), if_neg (by simp; omega), e]
theorem b0K (a b : Int) : a1Q a b = some (cI a b) := by
 unfold a1Q
 simp only [a0r]
 rcases X0 a b with ⟨h, e⟩ | ⟨h, e⟩ | ⟨h, e⟩
 ·rw [if_pos (by simpa using h), e]
 ·rw [if_neg (by simp; omega), if_pos (by simpa using h), e]
 ·rw [if_neg (by simp; omega), if_neg (by simp; omega), e]
theorem b4R (a b : Int) : a0c a b = some (cI a b) := by
 unfold a0c; rw [b0K]; rfl
theorem c1p : ∀ a b : List UInt8, Lib.compareBytes a b = cBs a b
 | [], [] => rfl
 | [], _ :: _ => rfl
 | _ :: _, [] => rfl
 | x :: xs, y :: ys => by
   have ih := c1p xs ys
   simp only [Lib.compareBytes, cBs, UInt8.lt_iff_toNat_lt]
   rcases X0 (x.toNat : Int) (y.toNat : Int) with ⟨h, e⟩ | ⟨h, e⟩ | ⟨h, e⟩
   ·rw [if_pos (by omega), e]; rfl
   ·rw [if_neg (by omega), if_pos (by omega), e]; rfl
   ·rw [if_neg (by omega), if_neg (by omega), e, a8D, ih]
theorem c15 (a b : ByteArray) : a1C a b = some (cS a b) := by
 unfold a1C a1E b98 b5d
 rw [c1p]; rfl
theorem b4D : ∀ a b : List UInt8, (Op.bytesLess a b = true /\ cBs a b = -1 /\ a ≠ b) \/ (Op.bytesLess a b = false /\ cBs a b = 0 /\ a = b) \/ (Op.bytesLess a b = false /\ cBs a b = 1 /\ a ≠ b)
 | [], [] => by simp [Op.bytesLess, cBs]
 | [], _ :: _ => by simp [Op.bytesLess, cBs]
 | _ :: _, [] => by simp [Op.bytesLess, cBs]
 | x :: xs, y :: ys => by
   have ih := b4D xs ys
   simp only [Op.bytesLess, cBs]
   rcases X0 (x.toNat : Int) (y.toNat : Int) with ⟨h, e⟩ | ⟨h, e⟩ | ⟨h, e⟩
   ·have h1 : x < y := UInt8.lt_iff_toNat_lt.2 (by omega)
    have h2 : x ≠ y := by intro h3; subst h3; omega
    simp [e, h1, h2, tn]
   ·have h1 : ¬ x < y := fun h3 => by have := UInt8.lt_iff_toNat_lt.1 h3; omega
    have h2 : x ≠ y := by intro h3; subst h3; omega
    simp [e, h1, h2, tn]
   ·have h2 : x = y := UInt8.toNat_inj.1 (by omega)
    subst h2
    have h1 : ¬ x < x := fun h3 => by have := UInt8.lt_iff_toNat_lt.1 h3; omega
    simpa [e, h1, tn] using ih
theorem a7f (a b : ByteArray) : (a1V a b = true /\ V3 a b = false /\ cS a b = -1) \/ (a1V a b = false /\ V3 a b = true /\ cS a b = 0) \/ (a1V a b = false /\ V3 a b = false /\ cS a b = 1) := by
 unfold a1V V3 cS
 rw [Lib.toList_data, Lib.toList_data]
 rcases b4D a.data.toList b.data.toList with ⟨h, e, n⟩ | ⟨h, e, n⟩ | ⟨h, e, n⟩
 ·left; exact ⟨h, by simpa using n, e⟩
 ·right; left; exact ⟨h, by simpa using n, e⟩
 ·right; right; exact ⟨h, by simpa using n, e⟩
theorem b1M (a b : ByteArray) : a0R a b = some (cS a b) := by
 unfold a0R
 rcases a7f a b with ⟨h, k, e⟩ | ⟨h, k, e⟩ | ⟨h, k, e⟩ <;> simp [h, k, e]
theorem c1W {x y : Int} {o : Option Int} (h : o = some y) : (bif (x != 0) then some x else o) = some (tn x y) := by
 rw [a0r]
 unfold tn
 by_cases hx : x = 0
 ·subst hx; simp [h]
 ·simp [hx]
theorem c17 {a b y : Int} {o : Option Int} (h : o = some y) : (bif (a != b) then some (cI a b) else o) = some (tn (cI a b) y) := by
 rw [a0r]
 unfold tn
 rcases X0 a b with ⟨p, e⟩ | ⟨p, e⟩ | ⟨p, e⟩
 ·have : a ≠ b := by omega
  simp [this, e]
 ·have : a ≠ b := by omega
  simp [this, e]
 ·simp [p, h]
  subst p
  intro h2; rw [e] at h2; exact absurd rfl h2
theorem c7k {a b : ByteArray} {y : Int} {o : Option Int} (h : o = some y) : (bif (!V3 a b) then (Option.bind (a0R a b) fun r => some r) else o) = some (tn (cS a b) y) := by
 rw [a0r, b1M, h]
 rcases a7f a b with ⟨_, p, e⟩ | ⟨_, p, e⟩ | ⟨_, p, e⟩ <;> simp [p, e, tn]
theorem c0K (a b : Key) : a1O a b = some (cK a b) := by
 unfold a1O
 rw [c1Q]
 simp only [Option.bind_some]
 exact c1W (by rw [c15]; rfl)
theorem a8P (a b : Key) : V1 a b = some (cK a b) := by
 unfold V1
 rw [b0K]
 exact c17 (by rw [b1M]; rfl)
theorem c4N {α : Type} {step : Int -> Option (Fl Int (Sum Unit Int))} {rc : α -> α -> Option Int} {c : α -> α -> Int} (xs ys : List α) (hlen : xs.length = ys.length)
 (hst : ∀ q, step q = bif decide (q < (xs.length : Int)) then Option.bind (idx xs q) fun x => Option.bind (idx ys q) fun y => Option.bind (rc x y) fun r =>
   bif r != 0 then some (.done (.inr r)) else some (.next (wr .i64 (q + 1))) else some (.done (.inl ())))
 (hrc : ∀ x ∈ xs, ∀ y, rc x y = some (c x y)) (hl : xs.length <= 4194304) :
 ∃ o, j5 step (xs.length + 1) 0 = some o /\ ((o = .inl () /\ cL c xs ys = 0) \/ (o = .inr (cL c xs ys) /\ cL c xs ys ≠ 0)) := by
 have key : ∀ (n i k : Nat), i + n = xs.length -> n + 1 <= k ->
  ∃ o, j5 step k (i : Int) = some o /\ ((o = .inl () /\ cL c (xs.drop i) (ys.drop i) = 0) \/ (o = .inr (cL c (xs.drop i) (ys.drop i)) /\ cL c (xs.drop i) (ys.drop i) ≠ 0)) := by
  intro n
  induction n with
  | zero =>
    intro i k hi hk
    obtain ⟨k, rfl⟩ : ∃ m, k = m + 1 := ⟨k - 1, by omega⟩
    refine ⟨.inl (), ?_, .inl ⟨rfl, ?_⟩⟩
    ·simp only [j5, hst, a0r]
     rw [if_neg (by simp; omega)]
     rfl
    ·rw [List.drop_eq_nil_of_le (by omega)]; simp [cL]
  | succ n ih =>
    intro i k hi hk
    obtain ⟨k, rfl⟩ : ∃ m, k = m + 1 := ⟨k - 1, by omega⟩
    have hx : i < xs.length := by omega
    have hy : i < ys.length := by omega
    rw [List.drop_eq_getElem_cons hx, List.drop_eq_getElem_cons hy]
    have e : step (i : Int) = if (c xs[i] ys[i] != 0) = true then some (.done (.inr (c xs[i] ys[i]))) else some (.next (w64 ((i : Int) + 1))) := by
     rw [hst]
     simp only [a0r, Z8]
     rw [if_pos (by simp; omega), v8 (List.getElem?_eq_getElem hx), v8 (List.getElem?_eq_getElem hy)]
     simp only [Option.bind_some]
     rw [hrc _ (List.getElem_mem hx)]
     rfl
    simp only [j5, e, cL]
    by_cases h0 : c xs[i] ys[i] = 0
    ·rw [h0, a8D, K7 (x := (i : Int) + 1) (by omega) (by omega)]
     obtain ⟨o, ho, hp⟩ := ih (i + 1) k (by omega) (by omega)
     refine ⟨o, ?_, hp⟩
     simpa using ho
    ·have ht : tn (c xs[i] ys[i]) (cL c (xs.drop (i + 1)) (ys.drop (i + 1))) = c xs[i] ys[i] := by simp [tn, h0]
     rw [ht]
     refine ⟨.inr (c xs[i] ys[i]), ?_, .inr ⟨rfl, h0⟩⟩
     simp [h0]
 obtain ⟨o, h1, h2⟩ := key xs.length 0 (xs.length + 1) (by omega) (Nat.le_refl _)
 exact ⟨o, by simpa using h1, by simpa using h2⟩
theorem c5H {α : Type} {step : Int -> Option (Fl Int (Sum Unit Int))} {rc : α -> α -> Option Int} {c : α -> α -> Int} (xs ys : List α) (hlen : xs.length = ys.length)
 (hst : ∀ q, step q = bif decide (q < (xs.length : Int)) then Option.bind (idx xs q) fun x => Option.bind (idx ys q) fun y => Option.bind (rc x y) fun r =>
   bif r != 0 then some (.done (.inr r)) else some (.next (wr .i64 (q + 1))) else some (.done (.inl ())))
 (hrc : ∀ x ∈ xs, ∀ y, rc x y = some (c x y)) (hl : xs.length <= 4194304) {f : Unit -> Option Int} {z : Int} (hf : ∀ q, f q = some z) :
 (Option.bind (j5 step (((xs.length : Int)).toNat + 1) 0) fun b => w5 f (fun r => some r) b) = some (tn (cL c xs ys) z) := by
 obtain ⟨o, h1, h2⟩ := c4N xs ys hlen hst hrc hl
 rw [V6, h1]
 rcases h2 with ⟨rfl, h⟩ | ⟨rfl, h⟩
 ·simp [w5, hf, h, tn]
 ·simp [w5, h, tn]
theorem b5m {α : Type} {step : Int -> Option (Fl Int (Sum Unit Int))} {rc : α -> α -> Option Int} {c : α -> α -> Int} (xs ys : List α)
 (hst : ∀ q, step q = bif decide (q < (xs.length : Int)) then Option.bind (idx xs q) fun x => Option.bind (idx ys q) fun y => Option.bind (rc x y) fun r =>
   bif r != 0 then some (.done (.inr r)) else some (.next (wr .i64 (q + 1))) else some (.done (.inl ())))
 (hrc : ∀ x ∈ xs, ∀ y, rc x y = some (c x y)) (hl : xs.length <= 4194304) {f : Unit -> Option Int} {z : Int} (hf : ∀ q, f q = some z) :
 (bif ((xs.length : Int) != (ys.length : Int)) then (Option.bind (a0c (xs.length : Int) (ys.length : Int)) fun r => some r) else
   (Option.bind (j5 step (((xs.length : Int)).toNat + 1) 0) fun b => w5 f (fun r => some r) b)) = some (tn (cN c xs ys) z) := by
 rw [a0r, b4R]
 simp only [Option.bind_some, cN]
 rcases X0 (xs.length : Int) (ys.length : Int) with ⟨p, e⟩ | ⟨p, e⟩ | ⟨p, e⟩
 ·have : ((xs.length : Int) != (ys.length : Int)) = true := by simp; omega
  rw [if_pos this, e]; rfl
 ·have : ((xs.length : Int) != (ys.length : Int)) = true := by simp; omega
  rw [if_pos this, e]; rfl
 ·rw [if_neg (by simp; omega), c5H xs ys (by omega) hst hrc hl hf, e, a8D]
theorem a4v : ∀ (k : Nat),
 (∀ a b, 2 * Y1 a <= k -> Y1 a <= 4194304 -> a0a k a b = some (cV a b)) /\
 (∀ xs ys, 2 * v7 xs + 1 <= k -> v7 xs <= 4194304 -> a2p k xs ys = some (cN cV xs ys)) /\
 (∀ a b, 2 * a4Z a <= k -> a4Z a <= 4194304 -> Z4 k a b = some (cE a b))
 | 0 => ⟨fun v _ h => by have := b42 v; omega, fun _ _ h => by omega, fun v _ h => by have := a13 v; omega⟩
 | k + 1 => by
   obtain ⟨i1, i2, i3⟩ := a4v k
   refine ⟨?_, ?_, ?_⟩
   ·intro a b h hb
    show a4D k (a0a k) (a2p k) (Z4 k) a b = _
    have hbe := a5G a
    have hk := b0L a.Keys
    have hs := a7H a.Labels
    have he := a6b a.Entries
    unfold a4D
    rw [c5d, b4R, b0K]
    simp only [Option.bind_some]
    refine c17 (c17 (c7k ?_))
    refine b5m (step := a6C a b) a.Keys b.Keys (rc := V1) (c := cK) (fun q => rfl) (fun x _ y => a8P x y) (by omega) ?_
    intro _
    rw [i2 a.Kids b.Kids (by omega) (by omega)]
    simp only [Option.bind_some]
    refine c1W ?_
    refine b5m (step := a6x a b (Z4 k)) a.Entries b.Entries (rc := Z4 k) (c := cE) (fun q => rfl) (fun x hx y => i3 x y (by have := a2l hx; omega) (by have := a2l hx; omega)) (by omega) ?_
    intro _
    have := b5m (step := a6J a b) a.Labels b.Labels (rc := a0R) (c := cS) (z := 0) (fun q => rfl) (fun x _ y => b1M x y) (by omega) (f := fun _ => some 0) (fun _ => rfl)
    rw [b2t] at this
    exact this
   ·intro xs ys h hb
    show a4O k (a0a k) (a2p k) (Z4 k) xs ys = _
    have hl := b0b xs
    unfold a4O
    rw [b5m (step := a7m xs ys (a0a k)) xs ys (rc := a0a k) (c := cV) (z := 0) (fun q => rfl) (fun x hx y => i1 x y (by have := a4Q hx; omega) (by have := a4Q hx; omega)) (by omega) (fun _ => rfl), b2t]
   ·intro a b h hb
    show a18 k (a0a k) (a2p k) (Z4 k) a b = _
    have hbe := a13 a
    unfold a18
    rw [c47, i2 a.Args b.Args (by omega) (by omega), i1 a.Result b.Result (by omega) (by omega)]
    simp only [Option.bind_some]
    refine c1W ?_
    cases a.Fails <;> cases b.Fails <;> simp [bI, cI, tn]
end Go.Pl
end
