/- Part 5. -/
import Derived.Test.YtdipagkcdpcnbaaGreatK2
import Derived.Test.YtdipagkcdpcnbaaGreatK4
import Derived.OpenShut
section
namespace Go.Qx
open Go Go.RowKit Go.Sx
set_option maxHeartbeats 1600000
set_option maxRecDepth 100000
def c4q : Row I := ⟨210, [.d (.str), .d (.str)], [.k (.d (.int .i64))], c2i⟩
theorem c95 : y4 Go.Proofs.Tryz.prog c4q := c94 Go.Proofs.Tryz.func210 (by kernel_rfl) rfl (by kernel_rfl) (by kernel_rfl)
def b5g : Row I := ⟨41, [.d (.sl 3)], [.k (.row 3 false)], a2W 8⟩
theorem b96 : y4 Go.Proofs.Tryz.prog b5g := c3t z7 mixed Go.Proofs.Tryz.func41 (by kernel_rfl) (by kernel_rfl) (by kernel_rfl) Go.Proofs.Tryz.underlying22 rfl (by kernel_rfl) (fun _ => by kernel_rfl)
def c4m : Rio I := ⟨151, 3, [], [], c04⟩
theorem c9B : c5e Go.Proofs.Tryz.prog c4m := c6r (I := I) (E := 3) Go.Proofs.Tryz.lay151 151 (by kernel_rfl) (fun x => x) Iff.rfl ⟨_, _, Go.Proofs.Tryz.func151, rfl, by kernel_rfl⟩
def c3Y : Row I := ⟨158, [.d (.sl 28)], [.k (.row 28 false)], a2W 128⟩
theorem c91 : y4 Go.Proofs.Tryz.prog c3Y := c3t z7 mixed Go.Proofs.Tryz.func158 (by kernel_rfl) (by kernel_rfl) (by kernel_rfl) Go.Proofs.Tryz.underlying23 rfl (by kernel_rfl) (fun _ => by kernel_rfl)
def b5A : Hints I where
 tds := fun i => (asc [] i).getD []
 spl := fun i => (asc [] i).getD []
 pre := fun i => (asc [] i).getD []
 join := asc []
 loop := asc [(26, ⟨65532, [], [], [(3, .k (.d (.int .i64)))], [((.exit 0), []), (.ret, [(2, .k (.d (.bool)))])], bnd tb (.len (.slot 0)) 1⟩)]
 keep := asc []
def a8m : Row I := ⟨8, [.d (.sl 22)], [.k (.d (.bool))], a5d⟩
theorem b4Z : y4 Go.Proofs.Tryz.prog (a8m) :=
 j8 z7 (y9 (es := []) trivial 3) mixed 16 (fn := Go.Proofs.Tryz.f8) (cd := v8 Go.Proofs.Tryz.f8) (H := b5A) (rl := [.tmp 2]) Go.Proofs.Tryz.func8 (by kernel_rfl) (by kernel_rfl) (by kernel_rfl) (by kernel_rfl) (by kernel_rfl) (by kernel_rfl) (by kernel_rfl)
def b8B : Hints I where
 tds := fun i => (asc [] i).getD []
 spl := fun i => (asc [] i).getD []
 pre := fun i => (asc [] i).getD []
 join := asc []
 loop := asc []
 keep := asc []
def a09 : Row I := ⟨28, [], [.k (.d (.dat 28))], a0b⟩
theorem a15 : y4 Go.Proofs.Tryz.prog (a09) :=
 j8 z7 (y9 (es := []) trivial 3) mixed 2 (fn := Go.Proofs.Tryz.f28) (cd := v8 Go.Proofs.Tryz.f28) (H := b8B) (rl := [.cell 0 28]) Go.Proofs.Tryz.func28 (by kernel_rfl) (by kernel_rfl) (by kernel_rfl) (by kernel_rfl) (by kernel_rfl) (by kernel_rfl) (by kernel_rfl)
def b5v : Hints I where
 tds := fun i => (asc [] i).getD []
 spl := fun i => (asc [] i).getD []
 pre := fun i => (asc [] i).getD []
 join := asc [(29, ⟨16776824, [], [], [(.normal, [(3, .k (.d (.bool))), (4, .k (.d (.bool))), (5, .k (.d (.bool))), (6, .k (.d (.bool)))])]⟩),
  (941, ⟨26624, [], [], [(.normal, [(11, .k (.d (.bool)))])]⟩),
  (3773, ⟨4096000, [], [], [(.normal, [(15, .k (.d (.bool)))])]⟩)]
 loop := asc []
 keep := asc []
def a8C : Row I := ⟨57, [.d (.dat 72)], [.k (.d (.bool))], a5h⟩
theorem b5k : y4 Go.Proofs.Tryz.prog (a8C) :=
 j8 z7 (y9 (es := []) trivial 3) mixed 67 (fn := Go.Proofs.Tryz.f57) (cd := v8 Go.Proofs.Tryz.f57) (H := b5v) (rl := [.tmp 2]) Go.Proofs.Tryz.func57 (by kernel_rfl) (by kernel_rfl) (by kernel_rfl) (by kernel_rfl) (by kernel_rfl) (by kernel_rfl) (by kernel_rfl)
def c0B : Hints I where
 tds := fun i => (asc [] i).getD []
 spl := fun i => (asc [] i).getD []
 pre := fun i => (asc [] i).getD []
 join := asc []
 loop := asc [(58, ⟨34351349952, [], [], [(7, .k (.d (.int .i64)))], [((.exit 0), []), (.ret, [(6, .k (.d (.bool)))])], bnd tb (.len (.slot 0)) 1⟩)]
 keep := asc []
def a8P : Row I := ⟨139, [.d (.str), .fn [.int .u8] [.k (.d (.bool))], .fn [.int .u8] [.k (.d (.bool))]], [.k (.d (.bool))], a7G⟩
theorem b3B : y4 Go.Proofs.Tryz.prog (a8P) :=
 j8 z7 (y9 (es := []) trivial 3) mixed 35 (fn := Go.Proofs.Tryz.f139) (cd := v8 Go.Proofs.Tryz.f139) (H := c0B) (rl := [.tmp 6]) Go.Proofs.Tryz.func139 (by kernel_rfl) (by kernel_rfl) (by kernel_rfl) (by kernel_rfl) (by kernel_rfl) (by kernel_rfl) (by kernel_rfl)
def b9H : Hints I where
 tds := fun i => (asc [] i).getD []
 spl := fun i => (asc [] i).getD []
 pre := fun i => (asc [] i).getD []
 join := asc []
 loop := asc []
 keep := asc []
def a5C : Row I := ⟨140, [.d (.int .u8)], [.k (.d (.bool))], a4Z⟩
theorem a8V : y4 Go.Proofs.Tryz.prog (a5C) :=
 j8 z7 (y9 (es := []) trivial 3) mixed 9 (fn := Go.Proofs.Tryz.f140) (cd := v8 Go.Proofs.Tryz.f140) (H := b9H) (rl := [.tmp 2]) Go.Proofs.Tryz.func140 (by kernel_rfl) (by kernel_rfl) (by kernel_rfl) (by kernel_rfl) (by kernel_rfl) (by kernel_rfl) (by kernel_rfl)
def b9K : Hints I where
 tds := fun i => (asc [] i).getD []
 spl := fun i => (asc [] i).getD []
 pre := fun i => (asc [] i).getD []
 join := asc []
 loop := asc []
 keep := asc []
def a8c : Row I := ⟨142, [.d (.int .u8)], [.k (.d (.bool))], a6P⟩
theorem b2P : y4 Go.Proofs.Tryz.prog (a8c) :=
 j8 z7 (y9 (es := []) trivial 3) mixed 9 (fn := Go.Proofs.Tryz.f142) (cd := v8 Go.Proofs.Tryz.f142) (H := b9K) (rl := [.tmp 2]) Go.Proofs.Tryz.func142 (by kernel_rfl) (by kernel_rfl) (by kernel_rfl) (by kernel_rfl) (by kernel_rfl) (by kernel_rfl) (by kernel_rfl)
def b9i : Hints I where
 tds := fun i => (asc [] i).getD []
 spl := fun i => (asc [] i).getD []
 pre := fun i => (asc [] i).getD []
 join := asc []
 loop := asc []
 keep := asc []
def b0Y : Row I := ⟨141, [.d (.int .u8)], [.k (.d (.bool))], b0A⟩
theorem b8z : y4 Go.Proofs.Tryz.prog (b0Y) :=
 j8 z7 (y9 (es := [j6 tb (a5C), j6 tb (a8c)]) ⟨z8 z7 a8V, ⟨z8 z7 b2P, trivial⟩⟩ 3) mixed 13 (fn := Go.Proofs.Tryz.f141) (cd := v8 Go.Proofs.Tryz.f141) (H := b9i) (rl := [.tmp 2]) Go.Proofs.Tryz.func141 (by kernel_rfl) (by kernel_rfl) (by kernel_rfl) (by kernel_rfl) (by kernel_rfl) (by kernel_rfl) (by kernel_rfl)
def c0v : Hints I where
 tds := fun i => (asc [] i).getD []
 spl := fun i => (asc [] i).getD []
 pre := fun i => (asc [] i).getD []
 join := asc []
 loop := asc []
 keep := asc []
def a6H : Row I := ⟨103, [.d (.str)], [.k (.d (.bool))], a5P⟩
theorem a9L : y4 Go.Proofs.Tryz.prog (a6H) :=
 j8 z7 (y9 (es := [j6 tb (a8P), j6 tb (a5C), j6 tb (b0Y)]) ⟨z8 z7 b3B, ⟨z8 z7 a8V, ⟨z8 z7 b8z, trivial⟩⟩⟩ 3) mixed 5 (fn := Go.Proofs.Tryz.f103) (cd := v8 Go.Proofs.Tryz.f103) (H := c0v) (rl := [.tmp 2]) Go.Proofs.Tryz.func103 (by kernel_rfl) (by kernel_rfl) (by kernel_rfl) (by kernel_rfl) (by kernel_rfl) (by kernel_rfl) (by kernel_rfl)
def c0a : Hints I where
 tds := fun i => (asc [] i).getD []
 spl := fun i => (asc [] i).getD []
 pre := fun i => (asc [] i).getD []
 join := asc []
 loop := asc []
 keep := asc []
def a8a : Row I := ⟨143, [.d (.int .u8)], [.k (.d (.bool))], a6N⟩
theorem b3o : y4 Go.Proofs.Tryz.prog (a8a) :=
 j8 z7 (y9 (es := []) trivial 3) mixed 9 (fn := Go.Proofs.Tryz.f143) (cd := v8 Go.Proofs.Tryz.f143) (H := c0a) (rl := [.tmp 2]) Go.Proofs.Tryz.func143 (by kernel_rfl) (by kernel_rfl) (by kernel_rfl) (by kernel_rfl) (by kernel_rfl) (by kernel_rfl) (by kernel_rfl)
def b6f : Hints I where
 tds := fun i => (asc [] i).getD []
 spl := fun i => (asc [] i).getD []
 pre := fun i => (asc [] i).getD []
 join := asc []
 loop := asc []
 keep := asc []
def a8w : Row I := ⟨144, [.d (.int .u8)], [.k (.d (.bool))], a7n⟩
theorem b4G : y4 Go.Proofs.Tryz.prog (a8w) :=
 j8 z7 (y9 (es := [j6 tb (a5C), j6 tb (a8a), j6 tb (a8c)]) ⟨z8 z7 a8V, ⟨z8 z7 b3o, ⟨z8 z7 b2P, trivial⟩⟩⟩ 3) mixed 17 (fn := Go.Proofs.Tryz.f144) (cd := v8 Go.Proofs.Tryz.f144) (H := b6f) (rl := [.tmp 2]) Go.Proofs.Tryz.func144 (by kernel_rfl) (by kernel_rfl) (by kernel_rfl) (by kernel_rfl) (by kernel_rfl) (by kernel_rfl) (by kernel_rfl)
def b63 : Hints I where
 tds := fun i => (asc [] i).getD []
 spl := fun i => (asc [] i).getD []
 pre := fun i => (asc [] i).getD []
 join := asc []
 loop := asc []
 keep := asc []
def a6x : Row I := ⟨104, [.d (.str)], [.k (.d (.bool))], a29⟩
theorem a99 : y4 Go.Proofs.Tryz.prog (a6x) :=
 j8 z7 (y9 (es := [j6 tb (a8P), j6 tb (a8a), j6 tb (a8w)]) ⟨z8 z7 b3B, ⟨z8 z7 b3o, ⟨z8 z7 b4G, trivial⟩⟩⟩ 3) mixed 5 (fn := Go.Proofs.Tryz.f104) (cd := v8 Go.Proofs.Tryz.f104) (H := b63) (rl := [.tmp 2]) Go.Proofs.Tryz.func104 (by kernel_rfl) (by kernel_rfl) (by kernel_rfl) (by kernel_rfl) (by kernel_rfl) (by kernel_rfl) (by kernel_rfl)
def b85 : Hints I where
 tds := fun i => (asc [] i).getD []
 spl := fun i => (asc [] i).getD []
 pre := fun i => (asc [] i).getD []
 join := asc []
 loop := asc []
 keep := asc []
def a7x : Row I := ⟨145, [.d (.dat 114)], [.k (.d (.bool))], a4h⟩
theorem b1L : y4 Go.Proofs.Tryz.prog (a7x) :=
 j8 z7 (y9 (es := [j6 tb (a6H)]) ⟨z8 z7 a9L, trivial⟩ 3) mixed 16 (fn := Go.Proofs.Tryz.f145) (cd := v8 Go.Proofs.Tryz.f145) (H := b85) (rl := [.tmp 2]) Go.Proofs.Tryz.func145 (by kernel_rfl) (by kernel_rfl) (by kernel_rfl) (by kernel_rfl) (by kernel_rfl) (by kernel_rfl) (by kernel_rfl)
def c0i : Hints I where
 tds := fun i => (asc [] i).getD []
 spl := fun i => (asc [] i).getD []
 pre := fun i => (asc [] i).getD []
 join := asc []
 loop := asc []
 keep := asc []
def b1F : Row I := ⟨193, [.d (.int .i64)], [.k (.d (.bool))], a8K⟩
theorem b8S : y4 Go.Proofs.Tryz.prog (b1F) :=
 j8 z7 (y9 (es := []) trivial 3) mixed 6 (fn := Go.Proofs.Tryz.f193) (cd := v8 Go.Proofs.Tryz.f193) (H := c0i) (rl := [.tmp 2]) Go.Proofs.Tryz.func193 (by kernel_rfl) (by kernel_rfl) (by kernel_rfl) (by kernel_rfl) (by kernel_rfl) (by kernel_rfl) (by kernel_rfl)
def b8w : Hints I where
 tds := fun i => (asc [] i).getD []
 spl := fun i => (asc [] i).getD []
 pre := fun i => (asc [] i).getD []
 join := asc []
 loop := asc []
 keep := asc []
def a07 : Row I := ⟨169, [.d (.int .i64), .d (.int .i64)], [.k (.d (.int .i64))], a0K⟩
theorem a2a : y4 Go.Proofs.Tryz.prog (a07) :=
 j8 z7 (y9 (es := [j6 tb (b1F)]) ⟨z8 z7 b8S, trivial⟩ 3) mixed 20 (fn := Go.Proofs.Tryz.f169) (cd := v8 Go.Proofs.Tryz.f169) (H := b8w) (rl := [.tmp 4]) Go.Proofs.Tryz.func169 (by kernel_rfl) (by kernel_rfl) (by kernel_rfl) (by kernel_rfl) (by kernel_rfl) (by kernel_rfl) (by kernel_rfl)
def a8R : Hints I where
 tds := fun i => (asc [] i).getD []
 spl := fun i => (asc [] i).getD []
 pre := fun i => (asc [] i).getD []
 join := asc []
 loop := asc []
 keep := asc []
def a3P : Row I := ⟨194, [.d (.str), .d (.str)], [.k (.d (.int .i64))], a2m⟩
theorem a8G : y4 Go.Proofs.Tryz.prog (a3P) :=
 j8 z7 (y9 (es := [j6 tb c4q]) ⟨z8 z7 c95, trivial⟩ 3) mixed 8 (fn := Go.Proofs.Tryz.f194) (cd := v8 Go.Proofs.Tryz.f194) (H := a8R) (rl := [.tmp 4]) Go.Proofs.Tryz.func194 (by kernel_rfl) (by kernel_rfl) (by kernel_rfl) (by kernel_rfl) (by kernel_rfl) (by kernel_rfl) (by kernel_rfl)
def b8u : Hints I where
 tds := fun i => (asc [] i).getD []
 spl := fun i => (asc [] i).getD []
 pre := fun i => (asc [] i).getD []
 join := asc []
 loop := asc []
 keep := asc []
def a4J : Row I := ⟨170, [.d (.str), .d (.str)], [.k (.d (.int .i64))], a0s⟩
theorem a7K : y4 Go.Proofs.Tryz.prog (a4J) :=
 j8 z7 (y9 (es := [j6 tb (a3P)]) ⟨z8 z7 a8G, trivial⟩ 3) mixed 8 (fn := Go.Proofs.Tryz.f170) (cd := v8 Go.Proofs.Tryz.f170) (H := b8u) (rl := [.tmp 4]) Go.Proofs.Tryz.func170 (by kernel_rfl) (by kernel_rfl) (by kernel_rfl) (by kernel_rfl) (by kernel_rfl) (by kernel_rfl) (by kernel_rfl)
def b6s : Hints I where
 tds := fun i => (asc [] i).getD []
 spl := fun i => (asc [] i).getD []
 pre := fun i => (asc [] i).getD []
 join := asc []
 loop := asc []
 keep := asc []
def a3B : Row I := ⟨146, [.d (.dat 114), .d (.dat 114)], [.k (.d (.int .i64))], a0j⟩
theorem a6I : y4 Go.Proofs.Tryz.prog (a3B) :=
 j8 z7 (y9 (es := [j6 tb (a07), j6 tb (a4J)]) ⟨z8 z7 a2a, ⟨z8 z7 a7K, trivial⟩⟩ 3) mixed 19 (fn := Go.Proofs.Tryz.f146) (cd := v8 Go.Proofs.Tryz.f146) (H := b6s) (rl := [.tmp 4]) Go.Proofs.Tryz.func146 (by kernel_rfl) (by kernel_rfl) (by kernel_rfl) (by kernel_rfl) (by kernel_rfl) (by kernel_rfl) (by kernel_rfl)
def b3Y : Hints I where
 tds := fun i => (asc [(4, [[], [0], [0, 1], [0, 1, 2], [0, 1, 2, 3], [0, 1, 2, 3, 4], [0, 1, 2, 3, 4, 5], [0, 1, 2, 3, 4, 5, 6], [0, 1, 2, 3, 4, 5, 6, 7], [0, 1, 2, 3, 4, 5, 6, 7], [0, 1, 2, 3, 4, 5, 6, 7, 9], [0, 1, 2, 3, 4, 5, 6, 7, 8, 9, 10], [0, 1, 2, 3, 4, 5, 6, 7, 8, 9, 10, 11], [0, 1, 2, 3, 4, 5, 6, 7, 8, 9, 10, 11, 12], [0, 1, 2, 3, 4, 5, 6, 7], [0, 1, 2, 3, 4, 5, 6, 7, 14], [0, 1, 2, 3, 4, 5, 6, 7, 8, 9, 10, 11, 12, 13, 14, 15], [0, 1, 2, 3, 4, 5, 6, 7, 8, 9, 10, 11, 12, 13, 14, 15, 16], [0, 1, 2, 3, 4, 5, 6, 7, 8, 9, 10, 11, 12, 13, 14, 15, 16, 17], [0, 1, 2, 3, 4, 5, 6, 7, 8, 9, 10, 11, 12, 13, 14, 15, 16, 17, 18]])] i).getD []
 spl := fun i => (asc [] i).getD []
 pre := fun i => (asc [] i).getD []
 join := asc []
 loop := asc [(26, ⟨8589934492, [], [], [(7, .k (.d (.int .i64)))], [((.exit 0), []), (.ret, [(2, .k (.d (.bool)))])], bnd tb (.slot 6) 1⟩)]
 keep := asc []
def a7z : Row I := ⟨105, [.d (.sl 132)], [.k (.d (.bool))], a4a⟩
theorem b3w : y4 Go.Proofs.Tryz.prog (a7z) :=
 j8 z7 (y9 (es := [j6 tb (a7x), j6 tb (a3B)]) ⟨z8 z7 b1L, ⟨z8 z7 a6I, trivial⟩⟩ 3) mixed 33 (fn := Go.Proofs.Tryz.f105) (cd := v8 Go.Proofs.Tryz.f105) (H := b3Y) (rl := [.tmp 2]) Go.Proofs.Tryz.func105 (by kernel_rfl) (by kernel_rfl) (by kernel_rfl) (by kernel_rfl) (by kernel_rfl) (by kernel_rfl) (by kernel_rfl)
def b5H : Hints I where
 tds := fun i => (asc [] i).getD []
 spl := fun i => (asc [] i).getD []
 pre := fun i => (asc [] i).getD []
 join := asc [(105, ⟨16288, [], [], [(.normal, [(5, .k (.d (.bool)))])]⟩),
  (28311549, ⟨368934881474191032320, [], [], [(.normal, [(66, .k (.d (.bool)))])]⟩)]
 loop := asc []
 keep := asc []
def a8F : Row I := ⟨58, [.d (.dat 72)], [.k (.d (.bool))], a5e⟩
theorem b4L : y4 Go.Proofs.Tryz.prog (a8F) :=
 j8 z7 (y9 (es := [j6 tb (a6H), j6 tb (a6x), j6 tb (a7z)]) ⟨z8 z7 a9L, ⟨z8 z7 a99, ⟨z8 z7 b3w, trivial⟩⟩⟩ 3) mixed 79 (fn := Go.Proofs.Tryz.f58) (cd := v8 Go.Proofs.Tryz.f58) (H := b5H) (rl := [.tmp 2]) Go.Proofs.Tryz.func58 (by kernel_rfl) (by kernel_rfl) (by kernel_rfl) (by kernel_rfl) (by kernel_rfl) (by kernel_rfl) (by kernel_rfl)
def b9h : Hints I where
 tds := fun i => (asc [] i).getD []
 spl := fun i => (asc [] i).getD []
 pre := fun i => (asc [] i).getD []
 join := asc []
 loop := asc [(58, ⟨4190248, [], [], [(3, .k (.row 3 false)), (12, .k (.d (.int .i64)))], [((.exit 0), [(3, .k (.row 3 false))])], bnd tb (.slot 11) 1⟩)]
 keep := asc []
def b0S : Row I := ⟨59, [.d (.dat 72)], [.k (.row 3 false)], a7Q⟩
theorem b8m : y4 Go.Proofs.Tryz.prog (b0S) :=
 j8 z7 (y9 (es := [j6 tb b5g]) ⟨z8 z7 b96, trivial⟩ 3) mixed 35 (fn := Go.Proofs.Tryz.f59) (cd := v8 Go.Proofs.Tryz.f59) (H := b9h) (rl := [.tmp 2]) Go.Proofs.Tryz.func59 (by kernel_rfl) (by kernel_rfl) (by kernel_rfl) (by kernel_rfl) (by kernel_rfl) (by kernel_rfl) (by kernel_rfl)
def b5W : Hints I where
 tds := fun i => (asc [] i).getD []
 spl := fun i => (asc [] i).getD []
 pre := fun i => (asc [] i).getD []
 join := asc []
 loop := asc []
 keep := asc []
def a8t : Row I := ⟨107, [.d (.int .i64)], [.k (.d (.bool))], a49⟩
theorem b4J : y4 Go.Proofs.Tryz.prog (a8t) :=
 j8 z7 (y9 (es := []) trivial 3) mixed 13 (fn := Go.Proofs.Tryz.f107) (cd := v8 Go.Proofs.Tryz.f107) (H := b5W) (rl := [.tmp 2]) Go.Proofs.Tryz.func107 (by kernel_rfl) (by kernel_rfl) (by kernel_rfl) (by kernel_rfl) (by kernel_rfl) (by kernel_rfl) (by kernel_rfl)
def b3c (_ : Nat) : Hints I where
 tds := fun i => (asc [] i).getD []
 spl := fun i => (asc [] i).getD []
 pre := fun i => (asc [] i).getD []
 join := asc []
 loop := asc [(122, ⟨140462610448544, [], [(1, .k (.row 3 false))], [(38, .k (.d (.int .i64)))], [((.exit 0), []), (.ret, [(5, .k (.d (.bool)))])], bnd tb (.slot 37) 1⟩)]
 keep := asc []
def a0Z (n : Nat) : Row I := ⟨106, [.d (.int .i64), .var 22 (.k (.row 3 false)) true, .var 36 (.k (.d (.dat 36))) false, .var 101 (.k (.d .any)) false], [.k (.d (.bool))], Q5 n⟩
theorem b1y (n : Nat) (h_typeexpr_contractive_1 : b2W Go.Proofs.Tryz.prog (a0Z n) (b95 101 106 3 [1, 2, 3])) : b2W Go.Proofs.Tryz.prog (a0Z (n + 1)) (b95 101 106 3 [1, 2, 3]) :=
 c8E z7 (y9 (es := [j6 tb (a8t), c4R tb (a0Z n) (b8c 101 106 3 [1, 2, 3])]) ⟨z8 z7 b4J, ⟨b9p z7 h_typeexpr_contractive_1 (fun _ _ _ _ _ _ _ _ _ hO h hc hv => c0m hO h hc hv), trivial⟩⟩ 3) mixed 50 (s0 := fun a => c73 101 106 3 3 [1, 2, 3] (b3V tb 50 [.d (.int .i64), .var 22 (.k (.row 3 false)) true, .var 36 (.k (.d (.dat 36))) false, .var 101 (.k (.d .any)) false] a)) (fn := Go.Proofs.Tryz.f106) (cd := v8 Go.Proofs.Tryz.f106) (H := (b3c n)) (rl := [.tmp 5]) (fun X c σ a vs F h hv hC => c7t rfl rfl rfl h hv hC) Go.Proofs.Tryz.func106 (by kernel_rfl) (by kernel_rfl) (by kernel_rfl) (by kernel_rfl) (by kernel_rfl) (by kernel_rfl) (by kernel_rfl)
theorem a7c : ∀ n : Nat, b2W Go.Proofs.Tryz.prog (a0Z n) (b95 101 106 3 [1, 2, 3])
 | 0 => c5U (Q8 (by kernel_rfl))
 | n + 1 => b1y n (a7c n)
def b3T (_ : Nat) : Hints I where
 tds := fun i => (asc [] i).getD []
 spl := fun i => (asc [] i).getD []
 pre := fun i => (asc [] i).getD []
 join := asc []
 loop := asc [(250, ⟨4177956, [], [(3, .k (.row 3 false))], [(14, .k (.d (.int .i64)))], [((.exit 0), []), (.ret, [(2, .k (.d (.bool)))])], bnd tb (.slot 13) 1⟩)]
 keep := asc []
def a7o (n : Nat) : Row I := ⟨60, [.d (.dat 36)], [.k (.d (.bool))], a3X n⟩
theorem b3u (n : Nat) : y4 Go.Proofs.Tryz.prog (a7o n) :=
 j8 z7 (y9 (es := [c4R tb (a0Z n) (b8c 101 106 3 [1, 2, 3])]) ⟨b9p z7 (a7c n) (fun _ _ _ _ _ _ _ _ _ hO h hc hv => c0m hO h hc hv), trivial⟩ 3) mixed 22 (fn := Go.Proofs.Tryz.f60) (cd := v8 Go.Proofs.Tryz.f60) (H := (b3T n)) (rl := [.tmp 2]) Go.Proofs.Tryz.func60 (by kernel_rfl) (by kernel_rfl) (by kernel_rfl) (by kernel_rfl) (by kernel_rfl) (by kernel_rfl) (by kernel_rfl)
def b4S (_ : Nat) : Hints I where
 tds := fun i => (asc [] i).getD []
 spl := fun i => (asc [] i).getD []
 pre := fun i => (asc [] i).getD []
 join := asc []
 loop := asc [(58, ⟨2251799811588180, [], [], [(21, .k (.d (.int .i64)))], [((.exit 0), []), (.ret, [(2, .k (.d (.int .i64)))])], bnd tb (.slot 20) 1⟩),
  (29902, ⟨1125831187365956, [34], [], [(36, .k (.d (.int .i64)))], [((.exit 2), []), (.ret, [(2, .k (.d (.int .i64)))])], bnd tb (.slot 35) 1⟩)]
 keep := asc []
def a2N (n : Nat) : Row I := ⟨32, [.d (.dat 36)], [.k (.d (.int .i64))], a0i n⟩
theorem a5p (n : Nat) : y4 Go.Proofs.Tryz.prog (a2N n) :=
 j8 z7 (y9 (es := [j6 tb (a8C), j6 tb (a8F), j6 tb (b0S), j6 tb (a7o n)]) ⟨z8 z7 b5k, ⟨z8 z7 b4L, ⟨z8 z7 b8m, ⟨z8 z7 (b3u n), trivial⟩⟩⟩⟩ 3) mixed 54 (fn := Go.Proofs.Tryz.f32) (cd := v8 Go.Proofs.Tryz.f32) (H := (b4S n)) (rl := [.tmp 2]) Go.Proofs.Tryz.func32 (by kernel_rfl) (by kernel_rfl) (by kernel_rfl) (by kernel_rfl) (by kernel_rfl) (by kernel_rfl) (by kernel_rfl)
def b1C : Hints I where
 tds := fun i => (asc [] i).getD []
 spl := fun i => (asc [] i).getD []
 pre := fun i => (asc [] i).getD []
 join := asc []
 loop := asc [(26, ⟨524080, [], [], [(8, .k (.d (.int .i64)))], [((.exit 0), []), (.ret, [(4, .k (.d (.int .i64)))])], bnd tb (.slot 7) 1⟩)]
 keep := asc []
def a5T : Row I := ⟨108, [.d (.sl 3), .fn [.int .i64] [.k (.d (.bool))]], [.k (.d (.int .i64))], a4B⟩
theorem b1d : y4 Go.Proofs.Tryz.prog (a5T) :=
 j8 z7 (y9 (es := []) trivial 3) mixed 19 (fn := Go.Proofs.Tryz.f108) (cd := v8 Go.Proofs.Tryz.f108) (H := b1C) (rl := [.tmp 4]) Go.Proofs.Tryz.func108 (by kernel_rfl) (by kernel_rfl) (by kernel_rfl) (by kernel_rfl) (by kernel_rfl) (by kernel_rfl) (by kernel_rfl)
def a9Y : Hints I where
 tds := fun i => (asc [] i).getD []
 spl := fun i => (asc [] i).getD []
 pre := fun i => (asc [] i).getD []
 join := asc []
 loop := asc []
 keep := asc []
def a0k : Row I := ⟨61, [.d (.sl 3), .fn [.int .i64] [.k (.d (.bool))]], [.k (.d (.bool))], Y5⟩
theorem a1h : y4 Go.Proofs.Tryz.prog (a0k) :=
 j8 z7 (y9 (es := [j6 tb (a5T)]) ⟨z8 z7 b1d, trivial⟩ 3) mixed 9 (fn := Go.Proofs.Tryz.f61) (cd := v8 Go.Proofs.Tryz.f61) (H := a9Y) (rl := [.tmp 4]) Go.Proofs.Tryz.func61 (by kernel_rfl) (by kernel_rfl) (by kernel_rfl) (by kernel_rfl) (by kernel_rfl) (by kernel_rfl) (by kernel_rfl)
def b6M : Hints I where
 tds := fun i => (asc [] i).getD []
 spl := fun i => (asc [] i).getD []
 pre := fun i => (asc [] i).getD []
 join := asc []
 loop := asc []
 keep := asc []
def a9a : Row I := ⟨62, [.d (.int .i64), .var 36 (.k (.d (.dat 36))) false], [.k (.d (.bool))], a8h⟩
theorem b58 : y4 Go.Proofs.Tryz.prog (a9a) :=
 j8 z7 (y9 (es := []) trivial 3) mixed 22 (fn := Go.Proofs.Tryz.f62) (cd := v8 Go.Proofs.Tryz.f62) (H := b6M) (rl := [.tmp 3]) Go.Proofs.Tryz.func62 (by kernel_rfl) (by kernel_rfl) (by kernel_rfl) (by kernel_rfl) (by kernel_rfl) (by kernel_rfl) (by kernel_rfl)
def b8x : Hints I where
 tds := fun i => (asc [] i).getD []
 spl := fun i => (asc [] i).getD []
 pre := fun i => (asc [] i).getD []
 join := asc []
 loop := asc []
 keep := asc []
def a67 : Row I := ⟨33, [.d (.dat 36), .d (.sl 3)], [.k (.d (.bool))], a5c⟩
theorem b1g : y4 Go.Proofs.Tryz.prog (a67) :=
 j8 z7 (y9 (es := [j6 tb (a0k), j6 tb (a9a)]) ⟨z8 z7 a1h, ⟨z8 z7 b58, trivial⟩⟩ 3) mixed 9 (fn := Go.Proofs.Tryz.f33) (cd := v8 Go.Proofs.Tryz.f33) (H := b8x) (rl := [.tmp 4]) Go.Proofs.Tryz.func33 (by kernel_rfl) (by kernel_rfl) (by kernel_rfl) (by kernel_rfl) (by kernel_rfl) (by kernel_rfl) (by kernel_rfl)
def b9u : Hints I where
 tds := fun i => (asc [] i).getD []
 spl := fun i => (asc [] i).getD []
 pre := fun i => (asc [] i).getD []
 join := asc []
 loop := asc [(58, ⟨68719473504, [], [], [(5, .k (.row 22 false)), (12, .k (.d (.int .i64)))], [((.exit 0), [(5, .k (.row 22 false))])], bnd tb (.slot 11) 1⟩),
  (29898, ⟨17179804480, [14], [], [(6, .k (.row 22 false)), (16, .k (.d (.int .i64)))], [((.exit 2), [(6, .k (.row 22 false))])], bnd tb (.slot 15) 1⟩),
  (7653990, ⟨8588886592, [], [], [(6, .k (.row 22 false)), (9, .k (.d (.int .i64)))], [((.exit 4), [(6, .k (.row 22 false))])], bnd tb (.slot 0) 2⟩)]
 keep := asc []
def b1M : Row I := ⟨42, [.d (.int .i64), .d (.int .i64)], [.k (.row 22 false)], a8J⟩
theorem b9c : y4 Go.Proofs.Tryz.prog (b1M) :=
 j8 z7 (y9 (es := [j6 tb b5g]) ⟨z8 z7 b96, trivial⟩ 3) mixed 37 (fn := Go.Proofs.Tryz.f42) (cd := v8 Go.Proofs.Tryz.f42) (H := b9u) (rl := [.tmp 4]) Go.Proofs.Tryz.func42 (by kernel_rfl) (by kernel_rfl) (by kernel_rfl) (by kernel_rfl) (by kernel_rfl) (by kernel_rfl) (by kernel_rfl)
def b3W : Hints I where
 tds := fun i => (asc [] i).getD []
 spl := fun i => (asc [] i).getD []
 pre := fun i => (asc [] i).getD []
 join := asc []
 loop := asc [(26, ⟨524080, [], [], [(8, .k (.d (.int .i64)))], [((.exit 0), []), (.ret, [(4, .k (.d (.int .i64)))])], bnd tb (.slot 7) 1⟩)]
 keep := asc []
def a7C : Row I := ⟨150, [.d (.sl 3), .d (.int .i64)], [.k (.d (.int .i64))], a6y⟩
theorem b3p : y4 Go.Proofs.Tryz.prog (a7C) :=
 j8 z7 (y9 (es := []) trivial 3) mixed 19 (fn := Go.Proofs.Tryz.f150) (cd := v8 Go.Proofs.Tryz.f150) (H := b3W) (rl := [.tmp 4]) Go.Proofs.Tryz.func150 (by kernel_rfl) (by kernel_rfl) (by kernel_rfl) (by kernel_rfl) (by kernel_rfl) (by kernel_rfl) (by kernel_rfl)
def b2h : Hints I where
 tds := fun i => (asc [] i).getD []
 spl := fun i => (asc [] i).getD []
 pre := fun i => (asc [] i).getD []
 join := asc []
 loop := asc []
 keep := asc []
def a6k : Row I := ⟨117, [.d (.sl 3), .d (.int .i64)], [.k (.d (.bool))], a2Q⟩
theorem b1t : y4 Go.Proofs.Tryz.prog (a6k) :=
 j8 z7 (y9 (es := [j6 tb (a7C)]) ⟨z8 z7 b3p, trivial⟩ 3) mixed 9 (fn := Go.Proofs.Tryz.f117) (cd := v8 Go.Proofs.Tryz.f117) (H := b2h) (rl := [.tmp 4]) Go.Proofs.Tryz.func117 (by kernel_rfl) (by kernel_rfl) (by kernel_rfl) (by kernel_rfl) (by kernel_rfl) (by kernel_rfl) (by kernel_rfl)
def b8t : Hints I where
 tds := fun i => (asc [] i).getD []
 spl := fun i => (asc [] i).getD []
 pre := fun i => (asc [] i).getD []
 join := asc []
 loop := asc []
 keep := asc []
def a97 : Row I := ⟨116, [.d (.int .i64), .var 22 (.k (.d (.sl 3))) false], [.k (.d (.bool))], a9E⟩
theorem b7g : y4 Go.Proofs.Tryz.prog (a97) :=
 j8 z7 (y9 (es := [j6 tb (a6k)]) ⟨z8 z7 b1t, trivial⟩ 3) mixed 7 (fn := Go.Proofs.Tryz.f116) (cd := v8 Go.Proofs.Tryz.f116) (H := b8t) (rl := [.tmp 3]) Go.Proofs.Tryz.func116 (by kernel_rfl) (by kernel_rfl) (by kernel_rfl) (by kernel_rfl) (by kernel_rfl) (by kernel_rfl) (by kernel_rfl)
def b9w : Hints I where
 tds := fun i => (asc [] i).getD []
 spl := fun i => (asc [] i).getD []
 pre := fun i => (asc [] i).getD []
 join := asc []
 loop := asc []
 keep := asc []
def b1J : Row I := ⟨71, [.d (.sl 3), .d (.sl 3)], [.k (.d (.bool))], a6Q⟩
theorem b8Y : y4 Go.Proofs.Tryz.prog (b1J) :=
 j8 z7 (y9 (es := [j6 tb (a0k), j6 tb (a97)]) ⟨z8 z7 a1h, ⟨z8 z7 b7g, trivial⟩⟩ 3) mixed 8 (fn := Go.Proofs.Tryz.f71) (cd := v8 Go.Proofs.Tryz.f71) (H := b9w) (rl := [.tmp 4]) Go.Proofs.Tryz.func71 (by kernel_rfl) (by kernel_rfl) (by kernel_rfl) (by kernel_rfl) (by kernel_rfl) (by kernel_rfl) (by kernel_rfl)
def b2y : Hints I where
 tds := fun i => (asc [(6, [[], [], [0, 1], [0, 1, 2], [], [], [5], [4, 5, 6], [4, 5, 6, 7], [0, 1, 2, 3, 4, 5, 6, 7, 8]]), (11, [[], [], [0, 1], [0, 1, 2], [], [], [5], [4, 5, 6], [4, 5, 6, 7], [0, 1, 2, 3, 4, 5, 6, 7, 8]])] i).getD []
 spl := fun i => (asc [] i).getD []
 pre := fun i => (asc [] i).getD []
 join := asc []
 loop := asc [(58, ⟨1152921504606846012, [], [], [(0, .k (.row 3 false)), (3, .k (.d (.int .i64)))], [((.exit 0), [(0, .k (.row 3 false))]), (.ret, [(0, .k (.row 3 true)), (2, .k (.d (.sl 3)))])], bnd tb (.len (.slot 0)) 1⟩)]
 keep := asc [(59690, ⟨18014397972611112, 0, 3, [(3, .k (.d (.int .i64))), (5, .k (.d (.int .i64)))], [((.exit 2), [(3, .k (.d (.int .i64)))])], bnd tb (.len (.slot 4)) 1⟩)]
def a6U : Row I := ⟨153, [.row 3 false], [.k (.d (.sl 3))], a3d⟩
theorem b2a : y4 Go.Proofs.Tryz.prog (a6U) :=
 j8 z7 (y9 (es := []) trivial 3) mixed 61 (fn := Go.Proofs.Tryz.f153) (cd := v8 Go.Proofs.Tryz.f153) (H := b2y) (rl := [.tmp 2]) Go.Proofs.Tryz.func153 (by kernel_rfl) (by kernel_rfl) (by kernel_rfl) (by kernel_rfl) (by kernel_rfl) (by kernel_rfl) (by kernel_rfl)
def b41 : Hints I where
 tds := fun i => (asc [] i).getD []
 spl := fun i => (asc [] i).getD []
 pre := fun i => (asc [] i).getD []
 join := asc []
 loop := asc []
 keep := asc []
def a74 : Row I := ⟨152, [.d (.sl 3)], [.k (.row 3 true)], a62⟩
theorem b4a : y4 Go.Proofs.Tryz.prog (a74) :=
 j8 z7 (y9 (es := []) trivial 3) mixed 9 (fn := Go.Proofs.Tryz.f152) (cd := v8 Go.Proofs.Tryz.f152) (H := b41) (rl := [.tmp 2]) Go.Proofs.Tryz.func152 (by kernel_rfl) (by kernel_rfl) (by kernel_rfl) (by kernel_rfl) (by kernel_rfl) (by kernel_rfl) (by kernel_rfl)
def c1K : Hints I where
 tds := fun i => (asc [] i).getD []
 spl := fun i => (asc [] i).getD []
 pre := fun i => (asc [] i).getD []
 join := asc []
 loop := asc []
 keep := asc []
def b3N : Row I := ⟨118, [.d (.sl 3)], [.k (.row 3 true)], a8n⟩
theorem c0S : y4 Go.Proofs.Tryz.prog (b3N) :=
 j8 z7 (y9 (es := [j6 tb b5g, c9n tb c4m, j6 tb (a6U), j6 tb (a74)]) ⟨z8 z7 b96, ⟨c8U z7 c9B, ⟨z8 z7 b2a, ⟨z8 z7 b4a, trivial⟩⟩⟩⟩ 3) mixed 11 (fn := Go.Proofs.Tryz.f118) (cd := v8 Go.Proofs.Tryz.f118) (H := c1K) (rl := [.tmp 2]) Go.Proofs.Tryz.func118 (by kernel_rfl) (by kernel_rfl) (by kernel_rfl) (by kernel_rfl) (by kernel_rfl) (by kernel_rfl) (by kernel_rfl)
def c1Y : Hints I where
 tds := fun i => (asc [(1, [[], [0], [0, 1], [], [3], [0, 1, 2, 3, 4], [], [6], [0, 1, 2, 3, 4, 5, 6, 7], [0, 1, 2, 3, 4, 5, 6, 7, 8]])] i).getD []
 spl := fun i => (asc [] i).getD []
 pre := fun i => (asc [] i).getD []
 join := asc []
 loop := asc []
 keep := asc []
def b3A : Row I := ⟨72, [.d (.dat 47)], [.k (.d (.dat 47))], a6X⟩
theorem c0C : y4 Go.Proofs.Tryz.prog (b3A) :=
 j8 z7 (y9 (es := [j6 tb (b3N)]) ⟨z8 z7 c0S, trivial⟩ 3) mixed 12 (fn := Go.Proofs.Tryz.f72) (cd := v8 Go.Proofs.Tryz.f72) (H := c1Y) (rl := [.cell 2 47]) Go.Proofs.Tryz.func72 (by kernel_rfl) (by kernel_rfl) (by kernel_rfl) (by kernel_rfl) (by kernel_rfl) (by kernel_rfl) (by kernel_rfl)
def c1T : Hints I where
 tds := fun i => (asc [(32, [[], [0], [], [2], [0, 1, 2, 3], [0, 1, 2, 3, 4], [0, 1, 2, 3, 4, 5], [0, 1, 2, 3, 4, 5, 6], [0, 1, 2, 3, 4, 5, 6, 7], [0, 1, 2, 3, 4, 5, 6], [0, 1, 2, 3, 4, 5, 6], [0, 1, 2, 3, 4, 5, 6, 9, 10], [0, 1, 2, 3, 4, 5, 6, 9, 10, 11], [0, 1, 2, 3, 4, 5, 6, 7, 8, 9, 10, 11, 12], [0, 1, 2, 3, 4, 5, 6, 7, 8, 9, 10, 11, 12, 13], [0, 1, 2, 3, 4, 5, 6, 7, 8, 9, 10, 11, 12, 13, 14], [0, 1, 2, 3, 4, 5, 6, 7, 8, 9, 10, 11, 12, 13, 14, 15], [0, 1, 2, 3, 4, 5, 6, 7, 8, 9, 10, 11, 12, 13, 14, 15, 16]])] i).getD []
 spl := fun i => (asc [] i).getD []
 pre := fun i => (asc [(21, [1000011]), (24, [11])] i).getD []
 join := asc [(16381, ⟨22657557121707113111800289765010735290080296960, [], [], [(.normal, [(19, .k (.d (.sl 47))), (22, .k (.row 57 false))])]⟩)]
 loop := asc [(8186, ⟨680543964654442787616235092878222164224, [], [], [(19, .k (.row 47 false)), (114, .k (.d (.int .i64)))], [((.exit 4), [(19, .k (.row 47 false))]), (.ret, [(8, .k (.row 57 false))])], bnd tb (.slot 113) 1⟩),
  (1048490, ⟨186889521873689210665296197983594691138502415876096, [], [], [(23, .k (.row 47 false)), (157, .k (.d (.int .i64)))], [((.exit 6), [(23, .k (.row 47 false))])], bnd tb (.slot 156) 1⟩)]
 keep := asc []
 nst := asc [(250, ⟨⟨4503049871560704, [], [], [(39, .k (.d (.int .i64)))], [((.exit 0), [])], bnd tb (.slot 38) 1⟩, 11, 47⟩),
  (2042, ⟨⟨5192296858534826475608991722881280, [], [(13, .lvs [.row 3 false, .row 3 false, .d (.bool)])], [(14, .k (.d (.bool))), (60, .k (.d (.int .i64)))], [((.exit 2), [(14, .k (.d (.bool)))]), (.ret, [(8, .k (.row 57 false))])], bnd tb (.slot 59) 1⟩, 11, 47⟩)]
def b3Q : Row I := ⟨43, [.d (.dat 36), .d (.sl 3), .d (.int .i64), .d (.sl 3)], [.k (.row 57 false)], b0N⟩
theorem c1h : y4 Go.Proofs.Tryz.prog (b3Q) :=
 j8 z7 (y9 (es := [j6 tb (b1J), j6 tb (b3A)]) ⟨z8 z7 b8Y, ⟨z8 z7 c0C, trivial⟩⟩ 3) mixed 173 (fn := Go.Proofs.Tryz.f43) (cd := v8 Go.Proofs.Tryz.f43) (H := c1T) (rl := [.tmp 8]) Go.Proofs.Tryz.func43 (by kernel_rfl) (by kernel_rfl) (by kernel_rfl) (by kernel_rfl) (by kernel_rfl) (by kernel_rfl) (by kernel_rfl)
def c1L (_ : Nat) : Hints I where
 tds := fun i => (asc [(1, [[], [0], [0, 1], [0, 1, 2], [0, 1, 2, 3], [0, 1, 2, 3], [0, 1, 2, 3, 5], [0, 1, 2, 3], [0, 1, 2, 3, 7], [0, 1, 2, 3, 5, 6, 7, 8], [0, 1, 2, 3, 4, 5, 6, 7, 8, 9], [0, 1, 2, 3, 4, 5, 6, 7, 8, 9, 10], [0, 1, 2, 3, 4, 5, 6, 7, 8, 9, 10, 11]])] i).getD []
 spl := fun i => (asc [(1, [18])] i).getD []
 pre := fun i => (asc [] i).getD []
 join := asc [(12, ⟨268402688, [], [], [(.normal, [(27, .k (.d (.bool)))])]⟩)]
 loop := asc [(122, ⟨2251731094209728, [], [], [(36, .k (.d (.int .i64)))], [((.exit 0), []), (.ret, [(6, .k (.row 57 false)), (7, .k (.d (.int .i64)))])], bnd tb (.slot 35) 1⟩),
  (1018, ⟨2360606780682519201792, [57], [], [(11, .k (.row 57 false)), (59, .k (.d (.int .i64)))], [((.exit 2), [(11, .k (.row 57 false))])], bnd tb (.slot 58) 1⟩)]
 keep := asc []
def a9P (n : Nat) : Row I := ⟨17, [.d (.dat 36), .d (.sl 3), .d (.int .i64)], [.k (.row 57 false), .k (.d (.int .i64))], a8x n⟩
theorem b5h (n : Nat) : y4 Go.Proofs.Tryz.prog (a9P n) :=
 j8 z7 (y9 (es := [j6 tb (a2N n), j6 tb b5g, j6 tb (a67), j6 tb (b1M), j6 tb (b3Q)]) ⟨z8 z7 (a5p n), ⟨z8 z7 b96, ⟨z8 z7 b1g, ⟨z8 z7 b9c, ⟨z8 z7 c1h, trivial⟩⟩⟩⟩⟩ 3) mixed 72 (fn := Go.Proofs.Tryz.f17) (cd := v8 Go.Proofs.Tryz.f17) (H := (c1L n)) (rl := [.tmp 6, .tmp 7]) Go.Proofs.Tryz.func17 (by kernel_rfl) (by kernel_rfl) (by kernel_rfl) (by kernel_rfl) (by kernel_rfl) (by kernel_rfl) (by kernel_rfl)
def a64 : Hints I where
 tds := fun i => (asc [] i).getD []
 spl := fun i => (asc [] i).getD []
 pre := fun i => (asc [] i).getD []
 join := asc []
 loop := asc [(26, ⟨524080, [], [], [(8, .k (.d (.int .i64)))], [((.exit 0), []), (.ret, [(4, .k (.d (.int .i64)))])], bnd tb (.slot 7) 1⟩)]
 keep := asc []
def a2o : Row I := ⟨109, [.d (.sl 28), .fn [.dat 28] [.k (.d (.bool))]], [.k (.d (.int .i64))], a3t⟩
theorem a6J : y4 Go.Proofs.Tryz.prog (a2o) :=
 j8 z7 (y9 (es := []) trivial 3) mixed 19 (fn := Go.Proofs.Tryz.f109) (cd := v8 Go.Proofs.Tryz.f109) (H := a64) (rl := [.tmp 4]) Go.Proofs.Tryz.func109 (by kernel_rfl) (by kernel_rfl) (by kernel_rfl) (by kernel_rfl) (by kernel_rfl) (by kernel_rfl) (by kernel_rfl)
def a6e : Hints I where
 tds := fun i => (asc [] i).getD []
 spl := fun i => (asc [] i).getD []
 pre := fun i => (asc [] i).getD []
 join := asc []
 loop := asc []
 keep := asc []
def a1Z : Row I := ⟨64, [.d (.sl 28), .fn [.dat 28] [.k (.d (.bool))]], [.k (.d (.bool))], a2H⟩
theorem a5F : y4 Go.Proofs.Tryz.prog (a1Z) :=
 j8 z7 (y9 (es := [j6 tb (a2o)]) ⟨z8 z7 a6J, trivial⟩ 3) mixed 9 (fn := Go.Proofs.Tryz.f64) (cd := v8 Go.Proofs.Tryz.f64) (H := a6e) (rl := [.tmp 4]) Go.Proofs.Tryz.func64 (by kernel_rfl) (by kernel_rfl) (by kernel_rfl) (by kernel_rfl) (by kernel_rfl) (by kernel_rfl) (by kernel_rfl)
def c3g : Hints I where
 tds := fun i => (asc [] i).getD []
 spl := fun i => (asc [] i).getD []
 pre := fun i => (asc [] i).getD []
 join := asc [(105, ⟨160, [], [], [(.normal, [(5, .k (.d (.bool)))])]⟩),
  (429, ⟨2560, [], [], [(.normal, [(9, .k (.d (.bool)))])]⟩),
  (6909, ⟨327680, [], [], [(.normal, [(16, .k (.d (.bool)))])]⟩)]
 loop := asc []
 keep := asc []
def b45 : Row I := ⟨154, [.d (.int .i64)], [.k (.d (.dat 153)), .k (.d (.bool))], a70⟩
theorem c1U : y4 Go.Proofs.Tryz.prog (b45) :=
 j8 z7 (y9 (es := []) trivial 3) mixed 27 (fn := Go.Proofs.Tryz.f154) (cd := v8 Go.Proofs.Tryz.f154) (H := c3g) (rl := [.cell 2 153, .tmp 3]) Go.Proofs.Tryz.func154 (by kernel_rfl) (by kernel_rfl) (by kernel_rfl) (by kernel_rfl) (by kernel_rfl) (by kernel_rfl) (by kernel_rfl)
def b2G : Hints I where
 tds := fun i => (asc [(4, [[], [], [], [2], [1, 2, 3], [1, 2, 3, 4], [], [], [6, 7], [6, 7, 8], [0, 1, 2, 3, 4, 5, 6, 7, 8, 9], [0, 1, 2, 3, 4, 5, 6, 7, 8, 9, 10]])] i).getD []
 spl := fun i => (asc [] i).getD []
 pre := fun i => (asc [] i).getD []
 join := asc []
 loop := asc [(26, ⟨16777200, [], [], [(5, .k (.d (.int .i64)))], [((.exit 0), []), (.ret, [(4, .k (.d (.bool)))])], bnd tb (.len (.slot 0)) 1⟩)]
 keep := asc []
def a6K : Row I := ⟨173, [.d (.sl 9), .fn [.str, .str] [.k (.d (.int .i64))]], [.k (.d (.bool))], a5l⟩
theorem b1P : y4 Go.Proofs.Tryz.prog (a6K) :=
 j8 z7 (y9 (es := []) trivial 3) mixed 24 (fn := Go.Proofs.Tryz.f173) (cd := v8 Go.Proofs.Tryz.f173) (H := b2G) (rl := [.tmp 4]) Go.Proofs.Tryz.func173 (by kernel_rfl) (by kernel_rfl) (by kernel_rfl) (by kernel_rfl) (by kernel_rfl) (by kernel_rfl) (by kernel_rfl)
def b6y : Hints I where
 tds := fun i => (asc [] i).getD []
 spl := fun i => (asc [] i).getD []
 pre := fun i => (asc [] i).getD []
 join := asc []
 loop := asc [(58, ⟨261140, [], [], [(10, .k (.d (.int .i64)))], [((.exit 0), []), (.ret, [(2, .k (.d (.bool)))])], bnd tb (.slot 9) 1⟩)]
 keep := asc []
def a85 : Row I := ⟨155, [.d (.sl 9)], [.k (.d (.bool))], a5D⟩
theorem b6e : y4 Go.Proofs.Tryz.prog (a85) :=
 j8 z7 (y9 (es := [j6 tb (a6K), j6 tb (a4J), j6 tb (a6x)]) ⟨z8 z7 b1P, ⟨z8 z7 a7K, ⟨z8 z7 a99, trivial⟩⟩⟩ 3) mixed 18 (fn := Go.Proofs.Tryz.f155) (cd := v8 Go.Proofs.Tryz.f155) (H := b6y) (rl := [.tmp 2]) Go.Proofs.Tryz.func155 (by kernel_rfl) (by kernel_rfl) (by kernel_rfl) (by kernel_rfl) (by kernel_rfl) (by kernel_rfl) (by kernel_rfl)
def b1O : Hints I where
 tds := fun i => (asc [(4, [[], [], [], [2], [1, 2, 3], [1, 2, 3, 4], [], [], [6, 7], [6, 7, 8], [0, 1, 2, 3, 4, 5, 6, 7, 8, 9], [0, 1, 2, 3, 4, 5, 6, 7, 8, 9, 10]])] i).getD []
 spl := fun i => (asc [] i).getD []
 pre := fun i => (asc [] i).getD []
 join := asc []
 loop := asc [(26, ⟨16777200, [], [], [(5, .k (.d (.int .i64)))], [((.exit 0), []), (.ret, [(4, .k (.d (.bool)))])], bnd tb (.len (.slot 0)) 1⟩)]
 keep := asc []
def a6h : Row I := ⟨174, [.d (.sl 114), .fn [.dat 114, .dat 114] [.k (.d (.int .i64))]], [.k (.d (.bool))], a4Y⟩
theorem b1E : y4 Go.Proofs.Tryz.prog (a6h) :=
 j8 z7 (y9 (es := []) trivial 3) mixed 24 (fn := Go.Proofs.Tryz.f174) (cd := v8 Go.Proofs.Tryz.f174) (H := b1O) (rl := [.tmp 4]) Go.Proofs.Tryz.func174 (by kernel_rfl) (by kernel_rfl) (by kernel_rfl) (by kernel_rfl) (by kernel_rfl) (by kernel_rfl) (by kernel_rfl)
def b8M : Hints I where
 tds := fun i => (asc [] i).getD []
 spl := fun i => (asc [] i).getD []
 pre := fun i => (asc [] i).getD []
 join := asc []
 loop := asc [(58, ⟨534773780, [], [], [(21, .k (.d (.int .i64)))], [((.exit 0), []), (.ret, [(2, .k (.d (.bool)))])], bnd tb (.slot 20) 1⟩)]
 keep := asc []
def b1c : Row I := ⟨156, [.d (.dat 28)], [.k (.d (.bool))], a7S⟩
theorem b8A : y4 Go.Proofs.Tryz.prog (b1c) :=
 j8 z7 (y9 (es := [j6 tb (a6h), j6 tb (a3B), j6 tb (a7x)]) ⟨z8 z7 b1E, ⟨z8 z7 a6I, ⟨z8 z7 b1L, trivial⟩⟩⟩ 3) mixed 29 (fn := Go.Proofs.Tryz.f156) (cd := v8 Go.Proofs.Tryz.f156) (H := b8M) (rl := [.tmp 2]) Go.Proofs.Tryz.func156 (by kernel_rfl) (by kernel_rfl) (by kernel_rfl) (by kernel_rfl) (by kernel_rfl) (by kernel_rfl) (by kernel_rfl)
def b0V : Hints I where
 tds := fun i => (asc [(4, [[], [], [], [2], [1, 2, 3], [1, 2, 3, 4], [], [], [6, 7], [6, 7, 8], [0, 1, 2, 3, 4, 5, 6, 7, 8, 9], [0, 1, 2, 3, 4, 5, 6, 7, 8, 9, 10]])] i).getD []
 spl := fun i => (asc [] i).getD []
 pre := fun i => (asc [] i).getD []
 join := asc []
 loop := asc [(26, ⟨16777200, [], [], [(5, .k (.d (.int .i64)))], [((.exit 0), []), (.ret, [(4, .k (.d (.bool)))])], bnd tb (.len (.slot 0)) 1⟩)]
 keep := asc []
def a5u : Row I := ⟨175, [.d (.sl 30), .fn [.dat 30, .dat 30] [.k (.d (.int .i64))]], [.k (.d (.bool))], a31⟩
theorem b0C : y4 Go.Proofs.Tryz.prog (a5u) :=
 j8 z7 (y9 (es := []) trivial 3) mixed 24 (fn := Go.Proofs.Tryz.f175) (cd := v8 Go.Proofs.Tryz.f175) (H := b0V) (rl := [.tmp 4]) Go.Proofs.Tryz.func175 (by kernel_rfl) (by kernel_rfl) (by kernel_rfl) (by kernel_rfl) (by kernel_rfl) (by kernel_rfl) (by kernel_rfl)
def a9i : Hints I where
 tds := fun i => (asc [(7, [[], [], [], [1, 2], [1, 2, 3], [], [], [5, 6], [5, 6, 7], [0, 1, 2, 3, 4, 5, 6, 7, 8], [0, 1, 2, 3, 4, 5, 6, 7, 8, 9]])] i).getD []
 spl := fun i => (asc [] i).getD []
 pre := fun i => (asc [] i).getD []
 join := asc []
 loop := asc [(58, ⟨137437905728, [], [], [(20, .k (.d (.int .i64)))], [((.exit 0), []), (.ret, [(6, .k (.d (.int .i64)))])], bnd tb (.slot 19) 1⟩)]
 keep := asc []
def a4w : Row I := ⟨188, [.d (.sl 28), .d (.sl 28), .fn [.dat 28, .dat 28] [.k (.d (.int .i64))]], [.k (.d (.int .i64))], a21⟩
theorem a9d : y4 Go.Proofs.Tryz.prog (a4w) :=
 j8 z7 (y9 (es := [j6 tb (a07)]) ⟨z8 z7 a2a, trivial⟩ 3) mixed 37 (fn := Go.Proofs.Tryz.f188) (cd := v8 Go.Proofs.Tryz.f188) (H := a9i) (rl := [.tmp 6]) Go.Proofs.Tryz.func188 (by kernel_rfl) (by kernel_rfl) (by kernel_rfl) (by kernel_rfl) (by kernel_rfl) (by kernel_rfl) (by kernel_rfl)
def b8s : Hints I where
 tds := fun i => (asc [] i).getD []
 spl := fun i => (asc [] i).getD []
 pre := fun i => (asc [] i).getD []
 join := asc []
 loop := asc []
 keep := asc []
def a93 : Row I := ⟨209, [.d (.int .i64)], [.k (.d (.bool))], a68⟩
theorem b7j : y4 Go.Proofs.Tryz.prog (a93) :=
 j8 z7 (y9 (es := []) trivial 3) mixed 6 (fn := Go.Proofs.Tryz.f209) (cd := v8 Go.Proofs.Tryz.f209) (H := b8s) (rl := [.tmp 2]) Go.Proofs.Tryz.func209 (by kernel_rfl) (by kernel_rfl) (by kernel_rfl) (by kernel_rfl) (by kernel_rfl) (by kernel_rfl) (by kernel_rfl)
def b6x : Hints I where
 tds := fun i => (asc [] i).getD []
 spl := fun i => (asc [] i).getD []
 pre := fun i => (asc [] i).getD []
 join := asc []
 loop := asc []
 keep := asc []
def a8Y : Row I := ⟨189, [.d (.int .i64), .d (.int .i64)], [.k (.d (.int .i64))], a5z⟩
theorem b5s : y4 Go.Proofs.Tryz.prog (a8Y) :=
 j8 z7 (y9 (es := [j6 tb (a93)]) ⟨z8 z7 b7j, trivial⟩ 3) mixed 20 (fn := Go.Proofs.Tryz.f189) (cd := v8 Go.Proofs.Tryz.f189) (H := b6x) (rl := [.tmp 4]) Go.Proofs.Tryz.func189 (by kernel_rfl) (by kernel_rfl) (by kernel_rfl) (by kernel_rfl) (by kernel_rfl) (by kernel_rfl) (by kernel_rfl)
def b0p : Hints I where
 tds := fun i => (asc [(7, [[], [], [], [1, 2], [1, 2, 3], [], [], [5, 6], [5, 6, 7], [0, 1, 2, 3, 4, 5, 6, 7, 8], [0, 1, 2, 3, 4, 5, 6, 7, 8, 9]])] i).getD []
 spl := fun i => (asc [] i).getD []
 pre := fun i => (asc [] i).getD []
 join := asc []
 loop := asc [(58, ⟨137437905728, [], [], [(20, .k (.d (.int .i64)))], [((.exit 0), []), (.ret, [(6, .k (.d (.int .i64)))])], bnd tb (.slot 19) 1⟩)]
 keep := asc []
def a5g : Row I := ⟨190, [.d (.sl 114), .d (.sl 114), .fn [.dat 114, .dat 114] [.k (.d (.int .i64))]], [.k (.d (.int .i64))], a3H⟩
theorem a9Z : y4 Go.Proofs.Tryz.prog (a5g) :=
 j8 z7 (y9 (es := [j6 tb (a07)]) ⟨z8 z7 a2a, trivial⟩ 3) mixed 37 (fn := Go.Proofs.Tryz.f190) (cd := v8 Go.Proofs.Tryz.f190) (H := b0p) (rl := [.tmp 6]) Go.Proofs.Tryz.func190 (by kernel_rfl) (by kernel_rfl) (by kernel_rfl) (by kernel_rfl) (by kernel_rfl) (by kernel_rfl) (by kernel_rfl)
def a9n : Hints I where
 tds := fun i => (asc [(7, [[], [], [], [1, 2], [1, 2, 3], [], [], [5, 6], [5, 6, 7], [0, 1, 2, 3, 4, 5, 6, 7, 8], [0, 1, 2, 3, 4, 5, 6, 7, 8, 9]])] i).getD []
 spl := fun i => (asc [] i).getD []
 pre := fun i => (asc [] i).getD []
 join := asc []
 loop := asc [(58, ⟨137437905728, [], [], [(20, .k (.d (.int .i64)))], [((.exit 0), []), (.ret, [(6, .k (.d (.int .i64)))])], bnd tb (.slot 19) 1⟩)]
 keep := asc []
def a4j : Row I := ⟨191, [.d (.sl 30), .d (.sl 30), .fn [.dat 30, .dat 30] [.k (.d (.int .i64))]], [.k (.d (.int .i64))], a25⟩
theorem a9h : y4 Go.Proofs.Tryz.prog (a4j) :=
 j8 z7 (y9 (es := [j6 tb (a07)]) ⟨z8 z7 a2a, trivial⟩ 3) mixed 37 (fn := Go.Proofs.Tryz.f191) (cd := v8 Go.Proofs.Tryz.f191) (H := a9n) (rl := [.tmp 6]) Go.Proofs.Tryz.func191 (by kernel_rfl) (by kernel_rfl) (by kernel_rfl) (by kernel_rfl) (by kernel_rfl) (by kernel_rfl) (by kernel_rfl)
def b08 : Hints I where
 tds := fun i => (asc [(7, [[], [], [], [1, 2], [1, 2, 3], [], [], [5, 6], [5, 6, 7], [0, 1, 2, 3, 4, 5, 6, 7, 8], [0, 1, 2, 3, 4, 5, 6, 7, 8, 9]])] i).getD []
 spl := fun i => (asc [] i).getD []
 pre := fun i => (asc [] i).getD []
 join := asc []
 loop := asc [(58, ⟨137437905728, [], [], [(20, .k (.d (.int .i64)))], [((.exit 0), []), (.ret, [(6, .k (.d (.int .i64)))])], bnd tb (.slot 19) 1⟩)]
 keep := asc []
def a5x : Row I := ⟨192, [.d (.sl 9), .d (.sl 9), .fn [.str, .str] [.k (.d (.int .i64))]], [.k (.d (.int .i64))], a35⟩
theorem b0l : y4 Go.Proofs.Tryz.prog (a5x) :=
 j8 z7 (y9 (es := [j6 tb (a07)]) ⟨z8 z7 a2a, trivial⟩ 3) mixed 37 (fn := Go.Proofs.Tryz.f192) (cd := v8 Go.Proofs.Tryz.f192) (H := b08) (rl := [.tmp 6]) Go.Proofs.Tryz.func192 (by kernel_rfl) (by kernel_rfl) (by kernel_rfl) (by kernel_rfl) (by kernel_rfl) (by kernel_rfl) (by kernel_rfl)
def c0j (_ : Nat) : Hints I where
 tds := fun i => (asc [] i).getD []
 spl := fun i => (asc [] i).getD []
 pre := fun i => (asc [] i).getD []
 join := asc []
 loop := asc []
 keep := asc []
def a0E (n : Nat) : Row I := ⟨165, [.d (.dat 28), .d (.dat 28)], [.k (.d (.int .i64))], a2G n⟩
def b3Z (_ : Nat) : Hints I where
 tds := fun i => (asc [] i).getD []
 spl := fun i => (asc [] i).getD []
 pre := fun i => (asc [] i).getD []
 join := asc []
 loop := asc []
 keep := asc []
def V8 (n : Nat) : Row I := ⟨126, [.d (.dat 30), .d (.dat 30)], [.k (.d (.int .i64))], V6 n⟩
def b4T (_ : Nat) : Hints I where
 tds := fun i => (asc [] i).getD []
 spl := fun i => (asc [] i).getD []
 pre := fun i => (asc [] i).getD []
 join := asc []
 loop := asc []
 keep := asc []
def a0o (n : Nat) : Row I := ⟨164, [.d (.sl 28), .d (.sl 28)], [.k (.d (.int .i64))], a2X n⟩
theorem b8o (n : Nat) (_ : y4 Go.Proofs.Tryz.prog (a0E n)) (h_value_compareEntries : y4 Go.Proofs.Tryz.prog (V8 n)) (h_value_compareValues : y4 Go.Proofs.Tryz.prog (a0o n)) : y4 Go.Proofs.Tryz.prog (a0E (n + 1)) :=
 j8 z7 (y9 (es := [j6 tb (a07), j6 tb (a8Y), j6 tb (a4J), j6 tb (a5g), j6 tb (a3B), j6 tb (a0o n), j6 tb (a4j), j6 tb (V8 n), j6 tb (a5x)]) ⟨z8 z7 a2a, ⟨z8 z7 b5s, ⟨z8 z7 a7K, ⟨z8 z7 a9Z, ⟨z8 z7 a6I, ⟨z8 z7 h_value_compareValues, ⟨z8 z7 a9h, ⟨z8 z7 h_value_compareEntries, ⟨z8 z7 b0l, trivial⟩⟩⟩⟩⟩⟩⟩⟩⟩ 3) mixed 64 (fn := Go.Proofs.Tryz.f165) (cd := v8 Go.Proofs.Tryz.f165) (H := (c0j n)) (rl := [.tmp 4]) Go.Proofs.Tryz.func165 (by kernel_rfl) (by kernel_rfl) (by kernel_rfl) (by kernel_rfl) (by kernel_rfl) (by kernel_rfl) (by kernel_rfl)
theorem b3b (n : Nat) (h_value_Compare : y4 Go.Proofs.Tryz.prog (a0E n)) (_ : y4 Go.Proofs.Tryz.prog (V8 n)) (h_value_compareValues : y4 Go.Proofs.Tryz.prog (a0o n)) : y4 Go.Proofs.Tryz.prog (V8 (n + 1)) :=
 j8 z7 (y9 (es := [j6 tb (a0o n), j6 tb (a0E n)]) ⟨z8 z7 h_value_compareValues, ⟨z8 z7 h_value_Compare, trivial⟩⟩ 3) mixed 26 (fn := Go.Proofs.Tryz.f126) (cd := v8 Go.Proofs.Tryz.f126) (H := (b3Z n)) (rl := [.tmp 4]) Go.Proofs.Tryz.func126 (by kernel_rfl) (by kernel_rfl) (by kernel_rfl) (by kernel_rfl) (by kernel_rfl) (by kernel_rfl) (by kernel_rfl)
theorem b3r (n : Nat) (h_value_Compare : y4 Go.Proofs.Tryz.prog (a0E n)) (_ : y4 Go.Proofs.Tryz.prog (V8 n)) (_ : y4 Go.Proofs.Tryz.prog (a0o n)) : y4 Go.Proofs.Tryz.prog (a0o (n + 1)) :=
 j8 z7 (y9 (es := [j6 tb (a4w), j6 tb (a0E n)]) ⟨z8 z7 a9d, ⟨z8 z7 h_value_Compare, trivial⟩⟩ 3) mixed 8 (fn := Go.Proofs.Tryz.f164) (cd := v8 Go.Proofs.Tryz.f164) (H := (b4T n)) (rl := [.tmp 4]) Go.Proofs.Tryz.func164 (by kernel_rfl) (by kernel_rfl) (by kernel_rfl) (by kernel_rfl) (by kernel_rfl) (by kernel_rfl) (by kernel_rfl)
theorem a6s : ∀ n : Nat, y4 Go.Proofs.Tryz.prog (a0E n) /\ y4 Go.Proofs.Tryz.prog (V8 n) /\ y4 Go.Proofs.Tryz.prog (a0o n)
 | 0 => ⟨Q8 (by kernel_rfl), Q8 (by kernel_rfl), Q8 (by kernel_rfl)⟩
 | n + 1 => by
   obtain ⟨h0, h1, h2⟩ := a6s n
   exact ⟨b8o n h0 h1 h2, b3b n h0 h1 h2, b3r n h0 h1 h2⟩
theorem b9f (n : Nat) : y4 Go.Proofs.Tryz.prog (a0E n) := (a6s n).1
theorem b3s (n : Nat) : y4 Go.Proofs.Tryz.prog (V8 n) := (a6s n).2.1
def c1Q (_ : Nat) : Hints I where
 tds := fun i => (asc [] i).getD []
 spl := fun i => (asc [] i).getD []
 pre := fun i => (asc [] i).getD []
 join := asc []
 loop := asc []
 keep := asc []
def b3H (n : Nat) : Row I := ⟨159, [.d (.dat 28), .d (.dat 28)], [.k (.d (.bool))], b4v n⟩
theorem c01 (n : Nat) : y4 Go.Proofs.Tryz.prog (b3H n) :=
 j8 z7 (y9 (es := [j6 tb (a0E n)]) ⟨z8 z7 (b9f n), trivial⟩ 3) mixed 9 (fn := Go.Proofs.Tryz.f159) (cd := v8 Go.Proofs.Tryz.f159) (H := (c1Q n)) (rl := [.tmp 4]) Go.Proofs.Tryz.func159 (by kernel_rfl) (by kernel_rfl) (by kernel_rfl) (by kernel_rfl) (by kernel_rfl) (by kernel_rfl) (by kernel_rfl)
def c0Z (_ : Nat) : Hints I where
 tds := fun i => (asc [] i).getD []
 spl := fun i => (asc [] i).getD []
 pre := fun i => (asc [] i).getD []
 join := asc []
 loop := asc []
 keep := asc []
def b3f (n : Nat) : Row I := ⟨123, [.d (.dat 28)], [.k (.d (.bool))], b2L n⟩
theorem c0h (n : Nat) : y4 Go.Proofs.Tryz.prog (b3f n) :=
 j8 z7 (y9 (es := [j6 tb (b3H n)]) ⟨z8 z7 (c01 n), trivial⟩ 3) mixed 6 (fn := Go.Proofs.Tryz.f123) (cd := v8 Go.Proofs.Tryz.f123) (H := (c0Z n)) (rl := [.tmp 2]) Go.Proofs.Tryz.func123 (by kernel_rfl) (by kernel_rfl) (by kernel_rfl) (by kernel_rfl) (by kernel_rfl) (by kernel_rfl) (by kernel_rfl)
def b6U (_ : Nat) : Hints I where
 tds := fun i => (asc [] i).getD []
 spl := fun i => (asc [] i).getD []
 pre := fun i => (asc [] i).getD []
 join := asc []
 loop := asc []
 keep := asc []
def a9W (n : Nat) : Row I := ⟨77, [.d (.dat 30), .d (.int .i64)], [.k (.d (.bool))], a4r n⟩
theorem b6N (n : Nat) : y4 Go.Proofs.Tryz.prog (a9W n) :=
 j8 z7 (y9 (es := [j6 tb (b3f n)]) ⟨z8 z7 (c0h n), trivial⟩ 3) mixed 20 (fn := Go.Proofs.Tryz.f77) (cd := v8 Go.Proofs.Tryz.f77) (H := (b6U n)) (rl := [.tmp 4]) Go.Proofs.Tryz.func77 (by kernel_rfl) (by kernel_rfl) (by kernel_rfl) (by kernel_rfl) (by kernel_rfl) (by kernel_rfl) (by kernel_rfl)
def b5i (_ : Nat) : Hints I where
 tds := fun i => (asc [] i).getD []
 spl := fun i => (asc [] i).getD []
 pre := fun i => (asc [] i).getD []
 join := asc []
 loop := asc [(58, ⟨4290773012, [], [], [(22, .k (.d (.int .i64)))], [((.exit 0), []), (.ret, [(2, .k (.d (.bool)))])], bnd tb (.slot 21) 1⟩)]
 keep := asc []
def a76 (n : Nat) : Row I := ⟨157, [.d (.dat 28)], [.k (.d (.bool))], a4O n⟩
theorem b4l (n : Nat) : y4 Go.Proofs.Tryz.prog (a76 n) :=
 j8 z7 (y9 (es := [j6 tb (a5u), j6 tb (V8 n), j6 tb (a9W n)]) ⟨z8 z7 b0C, ⟨z8 z7 (b3s n), ⟨z8 z7 (b6N n), trivial⟩⟩⟩ 3) mixed 32 (fn := Go.Proofs.Tryz.f157) (cd := v8 Go.Proofs.Tryz.f157) (H := (b5i n)) (rl := [.tmp 2]) Go.Proofs.Tryz.func157 (by kernel_rfl) (by kernel_rfl) (by kernel_rfl) (by kernel_rfl) (by kernel_rfl) (by kernel_rfl) (by kernel_rfl)
def b8q (_ : Nat) : Hints I where
 tds := fun i => (asc [] i).getD []
 spl := fun i => (asc [] i).getD []
 pre := fun i => (asc [] i).getD []
 join := asc []
 loop := asc []
 keep := asc []
def a96 (n : Nat) : Row I := ⟨121, [.d (.dat 28)], [.k (.d (.bool))], a69 n⟩
theorem b7H (n : Nat) : y4 Go.Proofs.Tryz.prog (a96 n) :=
 j8 z7 (y9 (es := [j6 tb (b45), j6 tb (a85), j6 tb (a6H), j6 tb (b1c), j6 tb (a76 n)]) ⟨z8 z7 c1U, ⟨z8 z7 b6e, ⟨z8 z7 a9L, ⟨z8 z7 b8A, ⟨z8 z7 (b4l n), trivial⟩⟩⟩⟩⟩ 3) mixed 124 (fn := Go.Proofs.Tryz.f121) (cd := v8 Go.Proofs.Tryz.f121) (H := (b8q n)) (rl := [.tmp 2]) Go.Proofs.Tryz.func121 (by kernel_rfl) (by kernel_rfl) (by kernel_rfl) (by kernel_rfl) (by kernel_rfl) (by kernel_rfl) (by kernel_rfl)
def c1N : Hints I where
 tds := fun i => (asc [] i).getD []
 spl := fun i => (asc [] i).getD []
 pre := fun i => (asc [] i).getD []
 join := asc []
 loop := asc [(58, ⟨536866856, [], [], [(3, .k (.row 28 false)), (12, .k (.d (.int .i64)))], [((.exit 0), [(3, .k (.row 28 false))])], bnd tb (.slot 11) 1⟩)]
 keep := asc []
def b3F : Row I := ⟨122, [.d (.dat 28)], [.k (.row 28 false)], b0I⟩
theorem c0X : y4 Go.Proofs.Tryz.prog (b3F) :=
 j8 z7 (y9 (es := [j6 tb c3Y]) ⟨z8 z7 c91, trivial⟩ 3) mixed 30 (fn := Go.Proofs.Tryz.f122) (cd := v8 Go.Proofs.Tryz.f122) (H := c1N) (rl := [.tmp 2]) Go.Proofs.Tryz.func122 (by kernel_rfl) (by kernel_rfl) (by kernel_rfl) (by kernel_rfl) (by kernel_rfl) (by kernel_rfl) (by kernel_rfl)
def b8p (_ : Nat) : Hints I where
 tds := fun i => (asc [] i).getD []
 spl := fun i => (asc [] i).getD []
 pre := fun i => (asc [] i).getD []
 join := asc []
 loop := asc [(58, ⟨522260, [9], [], [(11, .k (.d (.int .i64)))], [((.exit 0), []), (.ret, [(2, .k (.d (.bool)))])], bnd tb (.slot 10) 1⟩)]
 keep := asc []
def a20 (n : Nat) : Row I := ⟨76, [.d (.dat 28)], [.k (.d (.bool))], a2w n⟩
theorem b6t (n : Nat) (h_value_validTree : y4 Go.Proofs.Tryz.prog (a20 n)) : y4 Go.Proofs.Tryz.prog (a20 (n + 1)) :=
 j8 z7 (y9 (es := [j6 tb (a96 n), j6 tb (b3F), j6 tb (a20 n)]) ⟨z8 z7 (b7H n), ⟨z8 z7 c0X, ⟨z8 z7 h_value_validTree, trivial⟩⟩⟩ 3) mixed 19 (fn := Go.Proofs.Tryz.f76) (cd := v8 Go.Proofs.Tryz.f76) (H := (b8p n)) (rl := [.tmp 2]) Go.Proofs.Tryz.func76 (by kernel_rfl) (by kernel_rfl) (by kernel_rfl) (by kernel_rfl) (by kernel_rfl) (by kernel_rfl) (by kernel_rfl)
theorem b01 : ∀ n : Nat, y4 Go.Proofs.Tryz.prog (a20 n)
 | 0 => Q8 (by kernel_rfl)
 | n + 1 => b6t n (b01 n)
def b8O (_ : Nat) : Hints I where
 tds := fun i => (asc [] i).getD []
 spl := fun i => (asc [] i).getD []
 pre := fun i => (asc [] i).getD []
 join := asc []
 loop := asc []
 keep := asc []
def a7s (n : Nat) : Row I := ⟨48, [.d (.dat 28)], [.k (.d (.int .i64))], a5X n⟩
theorem b1I (n : Nat) : y4 Go.Proofs.Tryz.prog (a7s n) :=
 j8 z7 (y9 (es := [j6 tb (a20 n)]) ⟨z8 z7 (b01 n), trivial⟩ 3) mixed 6 (fn := Go.Proofs.Tryz.f48) (cd := v8 Go.Proofs.Tryz.f48) (H := (b8O n)) (rl := [.tmp 2]) Go.Proofs.Tryz.func48 (by kernel_rfl) (by kernel_rfl) (by kernel_rfl) (by kernel_rfl) (by kernel_rfl) (by kernel_rfl) (by kernel_rfl)
def b6g (_ : Nat) : Hints I where
 tds := fun i => (asc [] i).getD []
 spl := fun i => (asc [] i).getD []
 pre := fun i => (asc [] i).getD []
 join := asc []
 loop := asc []
 keep := asc []
def a8u (n : Nat) : Row I := ⟨63, [.d (.dat 28)], [.k (.d (.bool))], a7J n⟩
theorem b4O (n : Nat) : y4 Go.Proofs.Tryz.prog (a8u n) :=
 j8 z7 (y9 (es := [j6 tb (a7s n)]) ⟨z8 z7 (b1I n), trivial⟩ 3) mixed 6 (fn := Go.Proofs.Tryz.f63) (cd := v8 Go.Proofs.Tryz.f63) (H := (b6g n)) (rl := [.tmp 2]) Go.Proofs.Tryz.func63 (by kernel_rfl) (by kernel_rfl) (by kernel_rfl) (by kernel_rfl) (by kernel_rfl) (by kernel_rfl) (by kernel_rfl)
def b68 (_ : Nat) : Hints I where
 tds := fun i => (asc [] i).getD []
 spl := fun i => (asc [] i).getD []
 pre := fun i => (asc [] i).getD []
 join := asc []
 loop := asc []
 keep := asc []
def a9R (n : Nat) : Row I := ⟨34, [.d (.dat 30)], [.k (.d (.bool))], b3l n⟩
theorem b6K (n : Nat) : y4 Go.Proofs.Tryz.prog (a9R n) :=
 j8 z7 (y9 (es := [j6 tb (a1Z), j6 tb (a8u n)]) ⟨z8 z7 a5F, ⟨z8 z7 (b4O n), trivial⟩⟩ 3) mixed 20 (fn := Go.Proofs.Tryz.f34) (cd := v8 Go.Proofs.Tryz.f34) (H := (b68 n)) (rl := [.tmp 2]) Go.Proofs.Tryz.func34 (by kernel_rfl) (by kernel_rfl) (by kernel_rfl) (by kernel_rfl) (by kernel_rfl) (by kernel_rfl) (by kernel_rfl)
def c1O : Hints I where
 tds := fun i => (asc [] i).getD []
 spl := fun i => (asc [] i).getD []
 pre := fun i => (asc [] i).getD []
 join := asc []
 loop := asc []
 keep := asc []
def b3I : Row I := ⟨110, [.d (.int .i64)], [.k (.d (.int .i64))], b8J⟩
theorem c1d : y4 Go.Proofs.Tryz.prog (b3I) :=
 j8 z7 (y9 (es := []) trivial 3) mixed 14 (fn := Go.Proofs.Tryz.f110) (cd := v8 Go.Proofs.Tryz.f110) (H := c1O) (rl := [.tmp 2]) Go.Proofs.Tryz.func110 (by kernel_rfl) (by kernel_rfl) (by kernel_rfl) (by kernel_rfl) (by kernel_rfl) (by kernel_rfl) (by kernel_rfl)
def a9l : Hints I where
 tds := fun i => (asc [(4, [[], [], [], [1, 2], [1, 2, 3], [0, 1, 2, 3, 4]])] i).getD []
 spl := fun i => (asc [] i).getD []
 pre := fun i => (asc [] i).getD []
 join := asc []
 loop := asc [(26, ⟨524080, [], [], [(8, .k (.d (.int .i64)))], [((.exit 0), []), (.ret, [(4, .k (.d (.int .i64)))])], bnd tb (.slot 7) 1⟩)]
 keep := asc []
def a4p : Row I := ⟨171, [.d (.sl 114), .d (.dat 114)], [.k (.d (.int .i64))], a27⟩
theorem a9e : y4 Go.Proofs.Tryz.prog (a4p) :=
 j8 z7 (y9 (es := []) trivial 3) mixed 19 (fn := Go.Proofs.Tryz.f171) (cd := v8 Go.Proofs.Tryz.f171) (H := a9l) (rl := [.tmp 4]) Go.Proofs.Tryz.func171 (by kernel_rfl) (by kernel_rfl) (by kernel_rfl) (by kernel_rfl) (by kernel_rfl) (by kernel_rfl) (by kernel_rfl)
def a8j : Hints I where
 tds := fun i => (asc [] i).getD []
 spl := fun i => (asc [] i).getD []
 pre := fun i => (asc [] i).getD []
 join := asc []
 loop := asc []
 keep := asc []
def a3A : Row I := ⟨147, [.d (.sl 114), .d (.dat 114)], [.k (.d (.bool))], a00⟩
theorem a8f : y4 Go.Proofs.Tryz.prog (a3A) :=
 j8 z7 (y9 (es := [j6 tb (a4p)]) ⟨z8 z7 a9e, trivial⟩ 3) mixed 9 (fn := Go.Proofs.Tryz.f147) (cd := v8 Go.Proofs.Tryz.f147) (H := a8j) (rl := [.tmp 4]) Go.Proofs.Tryz.func147 (by kernel_rfl) (by kernel_rfl) (by kernel_rfl) (by kernel_rfl) (by kernel_rfl) (by kernel_rfl) (by kernel_rfl)
def c50 : Hints I where
 tds := fun i => (asc [] i).getD []
 spl := fun i => (asc [] i).getD []
 pre := fun i => (asc [] i).getD []
 join := asc []
 loop := asc [(26, ⟨2096208, [], [], [(10, .k (.d (.int .i64)))], [((.exit 0), []), (.ret, [(4, .k (.d (.int .i64)))])], bnd tb (.slot 9) 1⟩)]
 keep := asc []
def b8K : Row I := ⟨148, [.d (.dat 72), .d (.dat 114)], [.k (.d (.int .i64))], b7Y⟩
theorem c4T : y4 Go.Proofs.Tryz.prog (b8K) :=
 j8 z7 (y9 (es := []) trivial 3) mixed 26 (fn := Go.Proofs.Tryz.f148) (cd := v8 Go.Proofs.Tryz.f148) (H := c50) (rl := [.tmp 4]) Go.Proofs.Tryz.func148 (by kernel_rfl) (by kernel_rfl) (by kernel_rfl) (by kernel_rfl) (by kernel_rfl) (by kernel_rfl) (by kernel_rfl)
def b0w : Hints I where
 tds := fun i => (asc [] i).getD []
 spl := fun i => (asc [] i).getD []
 pre := fun i => (asc [] i).getD []
 join := asc []
 loop := asc [(26, ⟨524080, [], [], [(8, .k (.d (.int .i64)))], [((.exit 0), []), (.ret, [(4, .k (.d (.int .i64)))])], bnd tb (.slot 7) 1⟩)]
 keep := asc []
def a45 : Row I := ⟨149, [.d (.sl 9), .d (.str)], [.k (.d (.int .i64))], a3N⟩
theorem a91 : y4 Go.Proofs.Tryz.prog (a45) :=
 j8 z7 (y9 (es := []) trivial 3) mixed 19 (fn := Go.Proofs.Tryz.f149) (cd := v8 Go.Proofs.Tryz.f149) (H := b0w) (rl := [.tmp 4]) Go.Proofs.Tryz.func149 (by kernel_rfl) (by kernel_rfl) (by kernel_rfl) (by kernel_rfl) (by kernel_rfl) (by kernel_rfl) (by kernel_rfl)
def a9f : Hints I where
 tds := fun i => (asc [] i).getD []
 spl := fun i => (asc [] i).getD []
 pre := fun i => (asc [] i).getD []
 join := asc []
 loop := asc []
 keep := asc []
def a4d : Row I := ⟨115, [.d (.sl 9), .d (.str)], [.k (.d (.bool))], a1o⟩
theorem a8L : y4 Go.Proofs.Tryz.prog (a4d) :=
 j8 z7 (y9 (es := [j6 tb (a45)]) ⟨z8 z7 a91, trivial⟩ 3) mixed 9 (fn := Go.Proofs.Tryz.f115) (cd := v8 Go.Proofs.Tryz.f115) (H := a9f) (rl := [.tmp 4]) Go.Proofs.Tryz.func115 (by kernel_rfl) (by kernel_rfl) (by kernel_rfl) (by kernel_rfl) (by kernel_rfl) (by kernel_rfl) (by kernel_rfl)
def c4x (_ : Nat) : Hints I where
 tds := fun i => (asc [(6, [[], [], [], [], [2, 3], [2, 3, 4], [0, 1, 2, 3, 4, 5], [0, 1, 2, 3, 4, 5, 6]])] i).getD []
 spl := fun i => (asc [] i).getD []
 pre := fun i => (asc [] i).getD []
 join := asc []
 loop := asc [(58, ⟨1073676736, [], [], [(16, .k (.d (.int .i64)))], [((.exit 0), []), (.ret, [(6, .k (.d (.bool)))])], bnd tb (.slot 15) 1⟩)]
 keep := asc []
def a1v (n : Nat) : Row I := ⟨65, [.d (.sl 28), .d (.dat 36), .d (.sl 3)], [.k (.d (.bool))], a5s n⟩
def b6z (_ : Nat) : Hints I where
 tds := fun i => (asc [(2, [[], [0], [], [], [3], [], [3, 4, 5], [0, 1, 2, 3, 4, 5, 6], [0, 1, 2, 3, 4, 5, 6, 7], [0, 1, 2, 3, 4, 5, 6, 7, 8], [0, 1, 2, 3, 4, 5, 6, 7, 8, 9], [0, 1, 2, 3, 4, 5, 6, 7, 8, 9, 10], [0, 1, 2, 3, 4, 5, 6, 7, 8, 9, 10, 11], [0, 1, 2, 3, 4, 5, 6, 7, 8, 9, 10, 11, 12], [0, 1, 2, 3, 4, 5, 6, 7, 8, 9, 10, 11, 12, 13], [0, 1, 2, 3, 4, 5, 6, 7, 8, 9, 10, 11, 12, 13, 14], [0, 1, 2, 3, 4, 5, 6, 7, 8, 9, 10, 11, 12, 13], [0, 1, 2, 3, 4, 5, 6, 7, 8, 9, 10, 11, 12, 13], [0, 1, 2, 3, 4, 5, 6, 7, 8, 9, 10, 11, 12, 13, 17], [0, 1, 2, 3, 4, 5, 6, 7, 8, 9, 10, 11, 12, 13], [0, 1, 2, 3, 4, 5, 6, 7, 8, 9, 10, 11, 12, 13, 17, 18, 19], [0, 1, 2, 3, 4, 5, 6, 7, 8, 9, 10, 11, 12, 13, 17, 18, 19, 20], [0, 1, 2, 3, 4, 5, 6, 7, 8, 9, 10, 11, 12, 13, 14, 15, 16, 17, 18, 19, 20, 21], [0, 1, 2, 3, 4, 5, 6, 7, 8, 9, 10, 11, 12, 13, 14, 15, 16, 17, 18, 19, 20, 21, 22], [0, 1, 2, 3, 4, 5, 6, 7, 8, 9, 10, 11, 12, 13, 14, 15, 16, 17, 18, 19, 20, 21, 22, 23], [0, 1, 2, 3, 4, 5, 6, 7, 8, 9, 10, 11, 12, 13, 14, 15, 16, 17, 18, 19, 20, 21, 22, 23, 24]])] i).getD []
 spl := fun i => (asc [] i).getD []
 pre := fun i => (asc [] i).getD []
 join := asc []
 loop := asc []
 keep := asc []
def J2 (n : Nat) : Row I := ⟨35, [.d (.dat 30), .d (.dat 36), .d (.dat 72)], [.k (.d (.bool))], V4 n⟩
def b7G (_ : Nat) : Hints I where
 tds := fun i => (asc [] i).getD []
 spl := fun i => (asc [] i).getD []
 pre := fun i => (asc [] i).getD []
 join := asc []
 loop := asc [(58, ⟨536346944, [], [], [(19, .k (.d (.int .i64)))], [((.exit 0), []), (.ret, [(6, .k (.d (.bool)))])], bnd tb (.slot 18) 1⟩)]
 keep := asc []
def V5 (n : Nat) : Row I := ⟨112, [.d (.dat 28), .d (.dat 36), .d (.dat 72)], [.k (.d (.bool))], a0w n⟩
def c4s (_ : Nat) : Hints I where
 tds := fun i => (asc [(17, [[], [0], [], [2], [2, 3], [0, 1, 2, 3, 4], [0, 1, 2, 3, 4, 5]]), (31, [[], [], [], [2], [2, 3], [2, 3, 4], [0, 1, 2, 3, 4, 5], [0, 1, 2, 3, 4, 5, 6], [0, 1, 2, 3, 4, 5, 6, 7]])] i).getD []
 spl := fun i => (asc [] i).getD []
 pre := fun i => (asc [] i).getD []
 join := asc [(60413, ⟨144115188075855872000, [], [], [(.normal, [(60, .k (.d (.bool)))])]⟩)]
 loop := asc []
 keep := asc []
def V1 (n : Nat) : Row I := ⟨66, [.d (.dat 28), .d (.dat 36), .d (.int .i64)], [.k (.d (.bool))], a0e n⟩
def c2A (_ : Nat) : Hints I where
 tds := fun i => (asc [] i).getD []
 spl := fun i => (asc [] i).getD []
 pre := fun i => (asc [] i).getD []
 join := asc []
 loop := asc []
 keep := asc []
def a04 (n : Nat) : Row I := ⟨113, [.d (.int .i64), .var 28 (.k (.d (.dat 28))) false, .var 36 (.k (.d (.dat 36))) false], [.k (.d (.bool))], a3i n⟩
def c2v (_ : Nat) : Hints I where
 tds := fun i => (asc [] i).getD []
 spl := fun i => (asc [] i).getD []
 pre := fun i => (asc [] i).getD []
 join := asc []
 loop := asc []
 keep := asc []
def a03 (n : Nat) : Row I := ⟨114, [.d (.int .i64), .var 28 (.k (.d (.dat 28))) false, .var 36 (.k (.d (.dat 36))) false], [.k (.d (.bool))], a3o n⟩
def c1X (_ : Nat) : Hints I where
 tds := fun i => (asc [(10, [[], [0], [], [0, 1, 2], [0, 1, 2, 3], [], [], [], [6, 7], [0, 1, 2, 3, 4, 5, 6, 7, 8], [0, 1, 2, 3, 4, 5, 6, 7, 8, 9]])] i).getD []
 spl := fun i => (asc [] i).getD []
 pre := fun i => (asc [] i).getD []
 join := asc []
 loop := asc [(26, ⟨1073725760, [], [], [(14, .k (.d (.int .i64)))], [((.exit 0), []), (.ret, [(6, .k (.d (.bool)))])], bnd tb (.slot 13) 1⟩),
  (58, ⟨1125891316909632, [], [], [(33, .k (.d (.int .i64)))], [((.exit 2), []), (.ret, [(6, .k (.d (.bool)))])], bnd tb (.slot 32) 1⟩)]
 keep := asc []
def a0J (n : Nat) : Row I := ⟨111, [.d (.dat 28), .d (.dat 36), .d (.dat 72)], [.k (.d (.bool))], a2j n⟩
theorem c2j (n : Nat) (_ : y4 Go.Proofs.Tryz.prog (a1v n)) (_ : y4 Go.Proofs.Tryz.prog (J2 n)) (_ : y4 Go.Proofs.Tryz.prog (V5 n)) (h_core_Has : y4 Go.Proofs.Tryz.prog (V1 n)) (_ : y4 Go.Proofs.Tryz.prog (a04 n)) (_ : y4 Go.Proofs.Tryz.prog (a03 n)) (_ : y4 Go.Proofs.Tryz.prog (a0J n)) : y4 Go.Proofs.Tryz.prog (a1v (n + 1)) :=
 j8 z7 (y9 (es := [j6 tb (V1 n)]) ⟨z8 z7 h_core_Has, trivial⟩ 3) mixed 30 (fn := Go.Proofs.Tryz.f65) (cd := v8 Go.Proofs.Tryz.f65) (H := (c4x n)) (rl := [.tmp 6]) Go.Proofs.Tryz.func65 (by kernel_rfl) (by kernel_rfl) (by kernel_rfl) (by kernel_rfl) (by kernel_rfl) (by kernel_rfl) (by kernel_rfl)
theorem b4U (n : Nat) (h_core_all : y4 Go.Proofs.Tryz.prog (a1v n)) (_ : y4 Go.Proofs.Tryz.prog (J2 n)) (_ : y4 Go.Proofs.Tryz.prog (V5 n)) (h_core_Has : y4 Go.Proofs.Tryz.prog (V1 n)) (_ : y4 Go.Proofs.Tryz.prog (a04 n)) (_ : y4 Go.Proofs.Tryz.prog (a03 n)) (_ : y4 Go.Proofs.Tryz.prog (a0J n)) : y4 Go.Proofs.Tryz.prog (J2 (n + 1)) :=
 j8 z7 (y9 (es := [j6 tb (a1v n), j6 tb (V1 n)]) ⟨z8 z7 h_core_all, ⟨z8 z7 h_core_Has, trivial⟩⟩ 3) mixed 37 (fn := Go.Proofs.Tryz.f35) (cd := v8 Go.Proofs.Tryz.f35) (H := (b6z n)) (rl := [.tmp 6]) Go.Proofs.Tryz.func35 (by kernel_rfl) (by kernel_rfl) (by kernel_rfl) (by kernel_rfl) (by kernel_rfl) (by kernel_rfl) (by kernel_rfl)
theorem b5E (n : Nat) (_ : y4 Go.Proofs.Tryz.prog (a1v n)) (h_core_EntryAllowed : y4 Go.Proofs.Tryz.prog (J2 n)) (_ : y4 Go.Proofs.Tryz.prog (V5 n)) (_ : y4 Go.Proofs.Tryz.prog (V1 n)) (_ : y4 Go.Proofs.Tryz.prog (a04 n)) (_ : y4 Go.Proofs.Tryz.prog (a03 n)) (_ : y4 Go.Proofs.Tryz.prog (a0J n)) : y4 Go.Proofs.Tryz.prog (V5 (n + 1)) :=
 j8 z7 (y9 (es := [j6 tb (J2 n)]) ⟨z8 z7 h_core_EntryAllowed, trivial⟩ 3) mixed 29 (fn := Go.Proofs.Tryz.f112) (cd := v8 Go.Proofs.Tryz.f112) (H := (b7G n)) (rl := [.tmp 6]) Go.Proofs.Tryz.func112 (by kernel_rfl) (by kernel_rfl) (by kernel_rfl) (by kernel_rfl) (by kernel_rfl) (by kernel_rfl) (by kernel_rfl)
theorem c2g (n : Nat) (h_core_all : y4 Go.Proofs.Tryz.prog (a1v n)) (_ : y4 Go.Proofs.Tryz.prog (J2 n)) (h_core_functionHas : y4 Go.Proofs.Tryz.prog (V5 n)) (h_core_Has : y4 Go.Proofs.Tryz.prog (V1 n)) (h_core_Has_1 : y4 Go.Proofs.Tryz.prog (a04 n)) (h_core_Has_2 : y4 Go.Proofs.Tryz.prog (a03 n)) (h_core_mapHas : y4 Go.Proofs.Tryz.prog (a0J n)) : y4 Go.Proofs.Tryz.prog (V1 (n + 1)) :=
 j8 z7 (y9 (es := [j6 tb (b3I), j6 tb (a1v n), j6 tb (a0J n), j6 tb (V5 n), j6 tb (a0k), j6 tb (a04 n), j6 tb (a03 n), j6 tb (V1 n), j6 tb (a4d)]) ⟨z8 z7 c1d, ⟨z8 z7 h_core_all, ⟨z8 z7 h_core_mapHas, ⟨z8 z7 h_core_functionHas, ⟨z8 z7 a1h, ⟨z8 z7 h_core_Has_1, ⟨z8 z7 h_core_Has_2, ⟨z8 z7 h_core_Has, ⟨z8 z7 a8L, trivial⟩⟩⟩⟩⟩⟩⟩⟩⟩ 3) mixed 151 (fn := Go.Proofs.Tryz.f66) (cd := v8 Go.Proofs.Tryz.f66) (H := (c4s n)) (rl := [.tmp 6]) Go.Proofs.Tryz.func66 (by kernel_rfl) (by kernel_rfl) (by kernel_rfl) (by kernel_rfl) (by kernel_rfl) (by kernel_rfl) (by kernel_rfl)
theorem c0D (n : Nat) (_ : y4 Go.Proofs.Tryz.prog (a1v n)) (_ : y4 Go.Proofs.Tryz.prog (J2 n)) (_ : y4 Go.Proofs.Tryz.prog (V5 n)) (h_core_Has : y4 Go.Proofs.Tryz.prog (V1 n)) (_ : y4 Go.Proofs.Tryz.prog (a04 n)) (_ : y4 Go.Proofs.Tryz.prog (a03 n)) (_ : y4 Go.Proofs.Tryz.prog (a0J n)) : y4 Go.Proofs.Tryz.prog (a04 (n + 1)) :=
 j8 z7 (y9 (es := [j6 tb (V1 n)]) ⟨z8 z7 h_core_Has, trivial⟩ 3) mixed 9 (fn := Go.Proofs.Tryz.f113) (cd := v8 Go.Proofs.Tryz.f113) (H := (c2A n)) (rl := [.tmp 4]) Go.Proofs.Tryz.func113 (by kernel_rfl) (by kernel_rfl) (by kernel_rfl) (by kernel_rfl) (by kernel_rfl) (by kernel_rfl) (by kernel_rfl)
theorem c0K (n : Nat) (_ : y4 Go.Proofs.Tryz.prog (a1v n)) (_ : y4 Go.Proofs.Tryz.prog (J2 n)) (_ : y4 Go.Proofs.Tryz.prog (V5 n)) (h_core_Has : y4 Go.Proofs.Tryz.prog (V1 n)) (_ : y4 Go.Proofs.Tryz.prog (a04 n)) (_ : y4 Go.Proofs.Tryz.prog (a03 n)) (_ : y4 Go.Proofs.Tryz.prog (a0J n)) : y4 Go.Proofs.Tryz.prog (a03 (n + 1)) :=
 j8 z7 (y9 (es := [j6 tb (V1 n)]) ⟨z8 z7 h_core_Has, trivial⟩ 3) mixed 10 (fn := Go.Proofs.Tryz.f114) (cd := v8 Go.Proofs.Tryz.f114) (H := (c2v n)) (rl := [.tmp 4]) Go.Proofs.Tryz.func114 (by kernel_rfl) (by kernel_rfl) (by kernel_rfl) (by kernel_rfl) (by kernel_rfl) (by kernel_rfl) (by kernel_rfl)
theorem c0o (n : Nat) (_ : y4 Go.Proofs.Tryz.prog (a1v n)) (_ : y4 Go.Proofs.Tryz.prog (J2 n)) (_ : y4 Go.Proofs.Tryz.prog (V5 n)) (h_core_Has : y4 Go.Proofs.Tryz.prog (V1 n)) (_ : y4 Go.Proofs.Tryz.prog (a04 n)) (_ : y4 Go.Proofs.Tryz.prog (a03 n)) (_ : y4 Go.Proofs.Tryz.prog (a0J n)) : y4 Go.Proofs.Tryz.prog (a0J (n + 1)) :=
 j8 z7 (y9 (es := [j6 tb (a3A), j6 tb (b8K), j6 tb (V1 n)]) ⟨z8 z7 a8f, ⟨z8 z7 c4T, ⟨z8 z7 h_core_Has, trivial⟩⟩⟩ 3) mixed 50 (fn := Go.Proofs.Tryz.f111) (cd := v8 Go.Proofs.Tryz.f111) (H := (c1X n)) (rl := [.tmp 6]) Go.Proofs.Tryz.func111 (by kernel_rfl) (by kernel_rfl) (by kernel_rfl) (by kernel_rfl) (by kernel_rfl) (by kernel_rfl) (by kernel_rfl)
theorem a9F : ∀ n : Nat, y4 Go.Proofs.Tryz.prog (a1v n) /\ y4 Go.Proofs.Tryz.prog (J2 n) /\ y4 Go.Proofs.Tryz.prog (V5 n) /\ y4 Go.Proofs.Tryz.prog (V1 n) /\ y4 Go.Proofs.Tryz.prog (a04 n) /\ y4 Go.Proofs.Tryz.prog (a03 n) /\ y4 Go.Proofs.Tryz.prog (a0J n)
 | 0 => ⟨Q8 (by kernel_rfl), Q8 (by kernel_rfl), Q8 (by kernel_rfl), Q8 (by kernel_rfl), Q8 (by kernel_rfl), Q8 (by kernel_rfl), Q8 (by kernel_rfl)⟩
 | n + 1 => by
   obtain ⟨h0, h1, h2, h3, h4, h5, h6⟩ := a9F n
   exact ⟨c2j n h0 h1 h2 h3 h4 h5 h6, b4U n h0 h1 h2 h3 h4 h5 h6, b5E n h0 h1 h2 h3 h4 h5 h6, c2g n h0 h1 h2 h3 h4 h5 h6, c0D n h0 h1 h2 h3 h4 h5 h6, c0K n h0 h1 h2 h3 h4 h5 h6, c0o n h0 h1 h2 h3 h4 h5 h6⟩
theorem b5w (n : Nat) : y4 Go.Proofs.Tryz.prog (J2 n) := (a9F n).2.1
theorem b8D (n : Nat) : y4 Go.Proofs.Tryz.prog (V1 n) := (a9F n).2.2.2.1
def b99 (_ : Nat) : Hints I where
 tds := fun i => (asc [] i).getD []
 spl := fun i => (asc [] i).getD []
 pre := fun i => (asc [] i).getD []
 join := asc []
 loop := asc [(58, ⟨2251799746577216, [], [], [(26, .k (.d (.int .i64)))], [((.exit 0), []), (.ret, [(6, .k (.d (.bool)))])], bnd tb (.slot 25) 1⟩)]
 keep := asc []
def b1G (n : Nat) : Row I := ⟨12, [.d (.dat 30), .d (.dat 36), .d (.sl 3)], [.k (.d (.bool))], b1q n⟩
theorem b8U (n : Nat) : y4 Go.Proofs.Tryz.prog (b1G n) :=
 j8 z7 (y9 (es := [j6 tb (a2N n), j6 tb (a67), j6 tb (a9R n), j6 tb (J2 n)]) ⟨z8 z7 (a5p n), ⟨z8 z7 b1g, ⟨z8 z7 (b6K n), ⟨z8 z7 (b5w n), trivial⟩⟩⟩⟩ 3) mixed 51 (fn := Go.Proofs.Tryz.f12) (cd := v8 Go.Proofs.Tryz.f12) (H := (b99 n)) (rl := [.tmp 6]) Go.Proofs.Tryz.func12 (by kernel_rfl) (by kernel_rfl) (by kernel_rfl) (by kernel_rfl) (by kernel_rfl) (by kernel_rfl) (by kernel_rfl)
def b5V (_ : Nat) : Hints I where
 tds := fun i => (asc [] i).getD []
 spl := fun i => (asc [] i).getD []
 pre := fun i => (asc [] i).getD []
 join := asc []
 loop := asc []
 keep := asc []
def a8o (n : Nat) : Row I := ⟨10, [], [.k (.d (.bool))], a1q n⟩
theorem b5j (n : Nat) : y4 Go.Proofs.Tryz.prog (a8o n) :=
 j8 z7 (y9 (es := [j6 tb (a09), j6 tb (a9P n), j6 tb (b1G n)]) ⟨z8 z7 a15, ⟨z8 z7 (b5h n), ⟨z8 z7 (b8U n), trivial⟩⟩⟩ 3) mixed 37 (fn := Go.Proofs.Tryz.f10) (cd := v8 Go.Proofs.Tryz.f10) (H := (b5V n)) (rl := [.tmp 0]) Go.Proofs.Tryz.func10 (by kernel_rfl) (by kernel_rfl) (by kernel_rfl) (by kernel_rfl) (by kernel_rfl) (by kernel_rfl) (by kernel_rfl)
def b2d : Hints I where
 tds := fun i => (asc [(1, [[], [0], [0, 1], [0, 1, 2], [0, 1, 2, 3], [0, 1, 2, 3, 4], [0, 1, 2, 3, 4, 5], [0, 1, 2], [0, 1, 2, 7], [0, 1, 2, 7, 8], [0, 1, 2, 7, 8, 9], [0, 1, 2, 7, 8, 9, 10], [0, 1, 2, 3, 4, 5, 6, 7, 8, 9, 10, 11], [0, 1, 2, 3, 4, 5, 6, 7, 8, 9, 10, 11, 12]]), (3, [[], [0], [0, 1], [0, 1, 2], [], [4], [4, 5], [4, 5, 6], [0, 1, 2, 3, 4, 5, 6, 7], [0, 1, 2, 3, 4, 5, 6, 7, 8], [], [0, 1, 2, 3, 4, 5, 6, 7, 8, 9, 10], [0, 1, 2, 3, 4, 5, 6, 7, 8, 9, 10, 11]])] i).getD []
 spl := fun i => (asc [] i).getD []
 pre := fun i => (asc [] i).getD []
 join := asc []
 loop := asc []
 keep := asc []
def w9 : Row I := ⟨30, [.var 76 (.k (.d (.dat 76))) true, .d (.int .i64)], [.k (.d (.int .i64))], j0⟩
theorem Z3 : y4 Go.Proofs.Tryz.prog (w9) :=
 j8 z7 (y9 (es := []) trivial 3) mixed 46 (fn := Go.Proofs.Tryz.f30) (cd := v8 Go.Proofs.Tryz.f30) (H := b2d) (rl := [.tmp 4]) Go.Proofs.Tryz.func30 (by kernel_rfl) (by kernel_rfl) (by kernel_rfl) (by kernel_rfl) (by kernel_rfl) (by kernel_rfl) (by kernel_rfl)
def a90 : Hints I where
 tds := fun i => (asc [] i).getD []
 spl := fun i => (asc [] i).getD []
 pre := fun i => (asc [] i).getD []
 join := asc []
 loop := asc []
 keep := asc []
def a0l : Row I := ⟨89, [.var 76 (.k (.d (.dat 76))) true], [.k (.d (.str))], W0⟩
theorem a1f : y4 Go.Proofs.Tryz.prog (a0l) :=
 j8 z7 (y9 (es := [j6 tb (w9)]) ⟨z8 z7 Z3, trivial⟩ 3) mixed 8 (fn := Go.Proofs.Tryz.f89) (cd := v8 Go.Proofs.Tryz.f89) (H := a90) (rl := [.tmp 2]) Go.Proofs.Tryz.func89 (by kernel_rfl) (by kernel_rfl) (by kernel_rfl) (by kernel_rfl) (by kernel_rfl) (by kernel_rfl) (by kernel_rfl)
def b2k : Hints I where
 tds := fun i => (asc [] i).getD []
 spl := fun i => (asc [] i).getD []
 pre := fun i => (asc [] i).getD []
 join := asc []
 loop := asc []
 keep := asc []
def a0L : Row I := ⟨90, [.var 76 (.k (.d (.dat 76))) true], [.k (.d (.str))], a0q⟩
theorem a1V : y4 Go.Proofs.Tryz.prog (a0L) :=
 j8 z7 (y9 (es := [j6 tb (w9)]) ⟨z8 z7 Z3, trivial⟩ 3) mixed 8 (fn := Go.Proofs.Tryz.f90) (cd := v8 Go.Proofs.Tryz.f90) (H := b2k) (rl := [.tmp 2]) Go.Proofs.Tryz.func90 (by kernel_rfl) (by kernel_rfl) (by kernel_rfl) (by kernel_rfl) (by kernel_rfl) (by kernel_rfl) (by kernel_rfl)
def b1x : Hints I where
 tds := fun i => (asc [] i).getD []
 spl := fun i => (asc [] i).getD []
 pre := fun i => (asc [] i).getD []
 join := asc []
 loop := asc []
 keep := asc []
def a23 : Row I := ⟨91, [.var 76 (.k (.d (.dat 76))) true], [.k (.d (.str))], a0G⟩
theorem a6j : y4 Go.Proofs.Tryz.prog (a23) :=
 j8 z7 (y9 (es := [j6 tb (w9)]) ⟨z8 z7 Z3, trivial⟩ 3) mixed 8 (fn := Go.Proofs.Tryz.f91) (cd := v8 Go.Proofs.Tryz.f91) (H := b1x) (rl := [.tmp 2]) Go.Proofs.Tryz.func91 (by kernel_rfl) (by kernel_rfl) (by kernel_rfl) (by kernel_rfl) (by kernel_rfl) (by kernel_rfl) (by kernel_rfl)
def b0m : Hints I where
 tds := fun i => (asc [] i).getD []
 spl := fun i => (asc [] i).getD []
 pre := fun i => (asc [] i).getD []
 join := asc []
 loop := asc [(28, ⟨16776706, [], [(0, .k (.d (.dat 76)))], [(1, .k (.d (.int .i64))), (9, .k (.row 3 false))], [((.exit 0), [(9, .k (.row 3 false))])], bnd tb (.slot 1) 2⟩)]
 keep := asc []
def a5a : Row I := ⟨92, [.var 76 (.k (.d (.dat 76))) true, .d (.int .i64), .d (.int .i64), .d (.int .i64)], [.k (.row 3 false)], w7⟩
theorem a92 : y4 Go.Proofs.Tryz.prog (a5a) :=
 j8 z7 (y9 (es := [j6 tb (w9)]) ⟨z8 z7 Z3, trivial⟩ 3) mixed 25 (fn := Go.Proofs.Tryz.f92) (cd := v8 Go.Proofs.Tryz.f92) (H := b0m) (rl := [.tmp 8]) Go.Proofs.Tryz.func92 (by kernel_rfl) (by kernel_rfl) (by kernel_rfl) (by kernel_rfl) (by kernel_rfl) (by kernel_rfl) (by kernel_rfl)
def b0g : Hints I where
 tds := fun i => (asc [(7, [[], [0], [], [], [2, 3], [2, 3, 4], [], [], [6, 7], [], [6, 7, 8, 9], [6, 7, 8, 9, 10], [2, 3, 4, 5, 6, 7, 8, 9, 10, 11], [2, 3, 4, 5, 6, 7, 8, 9, 10, 11, 12], [0, 1, 2, 3, 4, 5, 6, 7, 8, 9, 10, 11, 12, 13], [0, 1, 2, 3, 4, 5, 6, 7, 8, 9, 10, 11, 12, 13, 14], [0, 1, 2, 3, 4, 5, 6, 7, 8, 9, 10, 11, 12, 13, 14, 15]])] i).getD []
 spl := fun i => (asc [] i).getD []
 pre := fun i => (asc [] i).getD []
 join := asc [(978, ⟨8796076244992, [], [(0, .k (.d (.dat 76))), (5, .lvs [.d (.int .i64), .d (.int .i64), .d (.int .i64), .d (.str), .row 3 false, .row 132 false, .d (.int .i64), .d (.int .i64)])], [(.normal, [])]⟩)]
 loop := asc [(122, ⟨8796091973760, [6], [(0, .k (.d (.dat 76))), (5, .lvs [.d (.int .i64), .d (.int .i64), .d (.int .i64), .d (.str), .row 3 false, .row 132 false, .d (.int .i64), .d (.int .i64)])], [(7, .k (.d (.int .i64)))], [((.exit 0), [])], bnd tb (.cst 3) 1⟩)]
 keep := asc []
def a48 : Row I := ⟨93, [.var 76 (.k (.d (.dat 76))) true, .d (.int .i64)], [.k (.d (.dat 72))], a1X⟩
theorem a9X : y4 Go.Proofs.Tryz.prog (a48) :=
 j8 z7 (y9 (es := [j6 tb (w9)]) ⟨z8 z7 Z3, trivial⟩ 3) mixed 44 (fn := Go.Proofs.Tryz.f93) (cd := v8 Go.Proofs.Tryz.f93) (H := b0g) (rl := [.cell 4 72]) Go.Proofs.Tryz.func93 (by kernel_rfl) (by kernel_rfl) (by kernel_rfl) (by kernel_rfl) (by kernel_rfl) (by kernel_rfl) (by kernel_rfl)
def b1Y : Hints I where
 tds := fun i => (asc [(8, [[], [], [0, 1], [0, 1, 2], [], [], [], [], [7], [6, 7, 8], [5, 6, 7, 8, 9], [4, 5, 6, 7, 8, 9, 10], [4, 5, 6, 7, 8, 9, 10, 11], [0, 1, 2, 3, 4, 5, 6, 7, 8, 9, 10, 11, 12], [0, 1, 2, 3, 4, 5, 6, 7, 8, 9, 10, 11, 12, 13]])] i).getD []
 spl := fun i => (asc [] i).getD []
 pre := fun i => (asc [] i).getD []
 join := asc [(29, ⟨128, [], [], [(.normal, [(7, .k (.d (.int .i64)))])]⟩),
  (32243709, ⟨47223664828696452136960, [], [], [(.normal, [(73, .k (.d (.bool)))])]⟩),
  (2063597565, ⟨49517601571415210995964968960, [], [], [(.normal, [(93, .k (.d (.bool)))])]⟩)]
 loop := asc []
 keep := asc []
def a6g : Row I := ⟨54, [.var 76 (.k (.d (.dat 76))) true, .d (.int .i64), .d (.int .i64)], [.k (.d (.dat 72))], a2M⟩
theorem b1k : y4 Go.Proofs.Tryz.prog (a6g) :=
 j8 z7 (y9 (es := [j6 tb (w9), j6 tb (a0l), j6 tb (a0L), j6 tb (a23), j6 tb (a5a), j6 tb (a48)]) ⟨z8 z7 Z3, ⟨z8 z7 a1f, ⟨z8 z7 a1V, ⟨z8 z7 a6j, ⟨z8 z7 a92, ⟨z8 z7 a9X, trivial⟩⟩⟩⟩⟩⟩ 3) mixed 128 (fn := Go.Proofs.Tryz.f54) (cd := v8 Go.Proofs.Tryz.f54) (H := b1Y) (rl := [.cell 6 72]) Go.Proofs.Tryz.func54 (by kernel_rfl) (by kernel_rfl) (by kernel_rfl) (by kernel_rfl) (by kernel_rfl) (by kernel_rfl) (by kernel_rfl)
def b1W : Hints I where
 tds := fun i => (asc [(6, [[], [0], [], [], [], [2, 3, 4], [2, 3, 4, 5], [0, 1, 2, 3, 4, 5, 6], [0, 1, 2, 3, 4, 5, 6, 7], [0, 1, 2, 3, 4, 5, 6, 7, 8]])] i).getD []
 spl := fun i => (asc [] i).getD []
 pre := fun i => (asc [] i).getD []
 join := asc []
 loop := asc [(122, ⟨16776256, [], [(0, .k (.d (.dat 76))), (5, .lvs [.row 72 false, .d (.int .i64)])], [(6, .k (.d (.int .i64)))], [((.exit 0), [])], bnd tb (.slot 1) 1⟩)]
 keep := asc []
def a6i : Row I := ⟨29, [.var 76 (.k (.d (.dat 76))) true, .d (.int .i64)], [.lvs [.row 72 false, .d (.int .i64)]], a0N⟩
theorem b1l : y4 Go.Proofs.Tryz.prog (a6i) :=
 j8 z7 (y9 (es := [j6 tb (a6g)]) ⟨z8 z7 b1k, trivial⟩ 3) mixed 25 (fn := Go.Proofs.Tryz.f29) (cd := v8 Go.Proofs.Tryz.f29) (H := b1W) (rl := [.cell 4 36]) Go.Proofs.Tryz.func29 (by kernel_rfl) (by kernel_rfl) (by kernel_rfl) (by kernel_rfl) (by kernel_rfl) (by kernel_rfl) (by kernel_rfl)
def b05 : Hints I where
 tds := fun i => (asc [] i).getD []
 spl := fun i => (asc [] i).getD []
 pre := fun i => (asc [] i).getD []
 join := asc []
 loop := asc []
 keep := asc []
def a5w : Row I := ⟨101, [.var 76 (.k (.d (.dat 76))) true], [.k (.d (.int .i64))], a2g⟩
theorem b0s : y4 Go.Proofs.Tryz.prog (a5w) :=
 j8 z7 (y9 (es := [j6 tb (w9)]) ⟨z8 z7 Z3, trivial⟩ 3) mixed 8 (fn := Go.Proofs.Tryz.f101) (cd := v8 Go.Proofs.Tryz.f101) (H := b05) (rl := [.tmp 2]) Go.Proofs.Tryz.func101 (by kernel_rfl) (by kernel_rfl) (by kernel_rfl) (by kernel_rfl) (by kernel_rfl) (by kernel_rfl) (by kernel_rfl)
def b8n : Hints I where
 tds := fun i => (asc [] i).getD []
 spl := fun i => (asc [] i).getD []
 pre := fun i => (asc [] i).getD []
 join := asc []
 loop := asc []
 keep := asc []
def a60 : Row I := ⟨94, [.d (.int .i64)], [.k (.d (.dat 28))], a9o⟩
theorem b1f : y4 Go.Proofs.Tryz.prog (a60) :=
 j8 z7 (y9 (es := []) trivial 3) mixed 5 (fn := Go.Proofs.Tryz.f94) (cd := v8 Go.Proofs.Tryz.f94) (H := b8n) (rl := [.cell 2 28]) Go.Proofs.Tryz.func94 (by kernel_rfl) (by kernel_rfl) (by kernel_rfl) (by kernel_rfl) (by kernel_rfl) (by kernel_rfl) (by kernel_rfl)
def b62 : Hints I where
 tds := fun i => (asc [] i).getD []
 spl := fun i => (asc [] i).getD []
 pre := fun i => (asc [] i).getD []
 join := asc []
 loop := asc []
 keep := asc []
def a6q : Row I := ⟨96, [.d (.str)], [.k (.d (.dat 28))], a6z⟩
theorem a98 : y4 Go.Proofs.Tryz.prog (a6q) :=
 j8 z7 (y9 (es := []) trivial 3) mixed 5 (fn := Go.Proofs.Tryz.f96) (cd := v8 Go.Proofs.Tryz.f96) (H := b62) (rl := [.cell 2 28]) Go.Proofs.Tryz.func96 (by kernel_rfl) (by kernel_rfl) (by kernel_rfl) (by kernel_rfl) (by kernel_rfl) (by kernel_rfl) (by kernel_rfl)
def b6i : Hints I where
 tds := fun i => (asc [] i).getD []
 spl := fun i => (asc [] i).getD []
 pre := fun i => (asc [] i).getD []
 join := asc []
 loop := asc []
 keep := asc []
def a5m : Row I := ⟨95, [.d (.str)], [.k (.d (.dat 28))], a43⟩
theorem a89 : y4 Go.Proofs.Tryz.prog (a5m) :=
 j8 z7 (y9 (es := []) trivial 3) mixed 5 (fn := Go.Proofs.Tryz.f95) (cd := v8 Go.Proofs.Tryz.f95) (H := b6i) (rl := [.cell 2 28]) Go.Proofs.Tryz.func95 (by kernel_rfl) (by kernel_rfl) (by kernel_rfl) (by kernel_rfl) (by kernel_rfl) (by kernel_rfl) (by kernel_rfl)
def b8y : Hints I where
 tds := fun i => (asc [] i).getD []
 spl := fun i => (asc [] i).getD []
 pre := fun i => (asc [] i).getD []
 join := asc []
 loop := asc []
 keep := asc []
def a66 : Row I := ⟨97, [.d (.int .i64)], [.k (.d (.dat 28))], a9x⟩
theorem b0R : y4 Go.Proofs.Tryz.prog (a66) :=
 j8 z7 (y9 (es := []) trivial 3) mixed 5 (fn := Go.Proofs.Tryz.f97) (cd := v8 Go.Proofs.Tryz.f97) (H := b8y) (rl := [.cell 2 28]) Go.Proofs.Tryz.func97 (by kernel_rfl) (by kernel_rfl) (by kernel_rfl) (by kernel_rfl) (by kernel_rfl) (by kernel_rfl) (by kernel_rfl)
def b5X : Hints I where
 tds := fun i => (asc [] i).getD []
 spl := fun i => (asc [] i).getD []
 pre := fun i => (asc [] i).getD []
 join := asc []
 loop := asc []
 keep := asc []
def a5r : Row I := ⟨138, [.d (.sl 28)], [.k (.row 28 false)], a1u⟩
theorem a8W : y4 Go.Proofs.Tryz.prog (a5r) :=
 j8 z7 (y9 (es := []) trivial 3) mixed 5 (fn := Go.Proofs.Tryz.f138) (cd := v8 Go.Proofs.Tryz.f138) (H := b5X) (rl := [.tmp 2]) Go.Proofs.Tryz.func138 (by kernel_rfl) (by kernel_rfl) (by kernel_rfl) (by kernel_rfl) (by kernel_rfl) (by kernel_rfl) (by kernel_rfl)
def b6O : Hints I where
 tds := fun i => (asc [] i).getD []
 spl := fun i => (asc [] i).getD []
 pre := fun i => (asc [] i).getD []
 join := asc []
 loop := asc []
 keep := asc []
def a5M : Row I := ⟨102, [.d (.sl 28)], [.k (.d (.dat 28))], a3R⟩
theorem a9k : y4 Go.Proofs.Tryz.prog (a5M) :=
 j8 z7 (y9 (es := [j6 tb (a5r)]) ⟨z8 z7 a8W, trivial⟩ 3) mixed 6 (fn := Go.Proofs.Tryz.f102) (cd := v8 Go.Proofs.Tryz.f102) (H := b6O) (rl := [.cell 2 28]) Go.Proofs.Tryz.func102 (by kernel_rfl) (by kernel_rfl) (by kernel_rfl) (by kernel_rfl) (by kernel_rfl) (by kernel_rfl) (by kernel_rfl)
def b2g : Hints I where
 tds := fun i => (asc [] i).getD []
 spl := fun i => (asc [] i).getD []
 pre := fun i => (asc [] i).getD []
 join := asc []
 loop := asc []
 keep := asc []
def a1H : Row I := ⟨56, [.var 76 (.k (.d (.dat 76))) true], [.k (.d (.dat 28))], K9⟩
theorem a3K : y4 Go.Proofs.Tryz.prog (a1H) :=
 j8 z7 (y9 (es := [j6 tb (w9), j6 tb (a5w), j6 tb (a60), j6 tb (a0l), j6 tb (a6q), j6 tb (a0L), j6 tb (a5m), j6 tb (a66), j6 tb (a09), j6 tb (a5M)]) ⟨z8 z7 Z3, ⟨z8 z7 b0s, ⟨z8 z7 b1f, ⟨z8 z7 a1f, ⟨z8 z7 a98, ⟨z8 z7 a1V, ⟨z8 z7 a89, ⟨z8 z7 b0R, ⟨z8 z7 a15, ⟨z8 z7 a9k, trivial⟩⟩⟩⟩⟩⟩⟩⟩⟩⟩ 3) mixed 29 (fn := Go.Proofs.Tryz.f56) (cd := v8 Go.Proofs.Tryz.f56) (H := b2g) (rl := [.cell 2 28]) Go.Proofs.Tryz.func56 (by kernel_rfl) (by kernel_rfl) (by kernel_rfl) (by kernel_rfl) (by kernel_rfl) (by kernel_rfl) (by kernel_rfl)
def b6B : Hints I where
 tds := fun i => (asc [] i).getD []
 spl := fun i => (asc [] i).getD []
 pre := fun i => (asc [] i).getD []
 join := asc []
 loop := asc []
 keep := asc []
def a5R : Row I := ⟨133, [.d (.int .u8)], [.k (.d (.bool))], a2C⟩
theorem a9U : y4 Go.Proofs.Tryz.prog (a5R) :=
 j8 z7 (y9 (es := []) trivial 3) mixed 9 (fn := Go.Proofs.Tryz.f133) (cd := v8 Go.Proofs.Tryz.f133) (H := b6B) (rl := [.tmp 2]) Go.Proofs.Tryz.func133 (by kernel_rfl) (by kernel_rfl) (by kernel_rfl) (by kernel_rfl) (by kernel_rfl) (by kernel_rfl) (by kernel_rfl)
def b6J : Hints I where
 tds := fun i => (asc [] i).getD []
 spl := fun i => (asc [] i).getD []
 pre := fun i => (asc [] i).getD []
 join := asc []
 loop := asc []
 keep := asc []
def a5Z : Row I := ⟨134, [.d (.int .u8)], [.k (.d (.bool))], a3T⟩
theorem a9A : y4 Go.Proofs.Tryz.prog (a5Z) :=
 j8 z7 (y9 (es := []) trivial 3) mixed 9 (fn := Go.Proofs.Tryz.f134) (cd := v8 Go.Proofs.Tryz.f134) (H := b6J) (rl := [.tmp 2]) Go.Proofs.Tryz.func134 (by kernel_rfl) (by kernel_rfl) (by kernel_rfl) (by kernel_rfl) (by kernel_rfl) (by kernel_rfl) (by kernel_rfl)
def b53 : Hints I where
 tds := fun i => (asc [] i).getD []
 spl := fun i => (asc [] i).getD []
 pre := fun i => (asc [] i).getD []
 join := asc []
 loop := asc [(58, ⟨4398046248972, [], [], [(3, .k (.d (.int .i64)))], [((.exit 0), []), (.ret, [(2, .k (.d (.bool)))])], bnd tb (.len (.slot 0)) 1⟩)]
 keep := asc []
def a3g : Row I := ⟨82, [.d (.str)], [.k (.d (.bool))], a12⟩
theorem a6c : y4 Go.Proofs.Tryz.prog (a3g) :=
 j8 z7 (y9 (es := [j6 tb (a5R), j6 tb (a5Z)]) ⟨z8 z7 a9U, ⟨z8 z7 a9A, trivial⟩⟩ 3) mixed 42 (fn := Go.Proofs.Tryz.f82) (cd := v8 Go.Proofs.Tryz.f82) (H := b53) (rl := [.tmp 2]) Go.Proofs.Tryz.func82 (by kernel_rfl) (by kernel_rfl) (by kernel_rfl) (by kernel_rfl) (by kernel_rfl) (by kernel_rfl) (by kernel_rfl)
def b4n : Hints I where
 tds := fun i => (asc [] i).getD []
 spl := fun i => (asc [] i).getD []
 pre := fun i => (asc [] i).getD []
 join := asc []
 loop := asc []
 keep := asc []
def a2t : Row I := ⟨83, [.d (.dat 114)], [.k (.d (.bool))], a1A⟩
theorem a4V : y4 Go.Proofs.Tryz.prog (a2t) :=
 j8 z7 (y9 (es := [j6 tb (a3g)]) ⟨z8 z7 a6c, trivial⟩ 3) mixed 22 (fn := Go.Proofs.Tryz.f83) (cd := v8 Go.Proofs.Tryz.f83) (H := b4n) (rl := [.tmp 2]) Go.Proofs.Tryz.func83 (by kernel_rfl) (by kernel_rfl) (by kernel_rfl) (by kernel_rfl) (by kernel_rfl) (by kernel_rfl) (by kernel_rfl)
def b6u : Hints I where
 tds := fun i => (asc [] i).getD []
 spl := fun i => (asc [] i).getD []
 pre := fun i => (asc [] i).getD []
 join := asc []
 loop := asc []
 keep := asc []
def a3z : Row I := ⟨86, [.d (.int .i64), .d (.int .i64)], [.k (.d (.int .i64))], a2E⟩
theorem a6F : y4 Go.Proofs.Tryz.prog (a3z) :=
 j8 z7 (y9 (es := []) trivial 3) mixed 11 (fn := Go.Proofs.Tryz.f86) (cd := v8 Go.Proofs.Tryz.f86) (H := b6u) (rl := [.tmp 4]) Go.Proofs.Tryz.func86 (by kernel_rfl) (by kernel_rfl) (by kernel_rfl) (by kernel_rfl) (by kernel_rfl) (by kernel_rfl) (by kernel_rfl)
def b7e : Hints I where
 tds := fun i => (asc [] i).getD []
 spl := fun i => (asc [] i).getD []
 pre := fun i => (asc [] i).getD []
 join := asc []
 loop := asc []
 keep := asc []
def a6n : Row I := ⟨87, [.d (.str), .d (.str)], [.k (.d (.int .i64))], a1r⟩
theorem a94 : y4 Go.Proofs.Tryz.prog (a6n) :=
 j8 z7 (y9 (es := []) trivial 3) mixed 11 (fn := Go.Proofs.Tryz.f87) (cd := v8 Go.Proofs.Tryz.f87) (H := b7e) (rl := [.tmp 4]) Go.Proofs.Tryz.func87 (by kernel_rfl) (by kernel_rfl) (by kernel_rfl) (by kernel_rfl) (by kernel_rfl) (by kernel_rfl) (by kernel_rfl)
def b2i : Hints I where
 tds := fun i => (asc [] i).getD []
 spl := fun i => (asc [] i).getD []
 pre := fun i => (asc [] i).getD []
 join := asc []
 loop := asc []
 keep := asc []
def a0M : Row I := ⟨84, [.d (.dat 114), .d (.dat 114)], [.k (.d (.int .i64))], W6⟩
theorem a1U : y4 Go.Proofs.Tryz.prog (a0M) :=
 j8 z7 (y9 (es := [j6 tb (a3z), j6 tb (a6n)]) ⟨z8 z7 a6F, ⟨z8 z7 a94, trivial⟩⟩ 3) mixed 20 (fn := Go.Proofs.Tryz.f84) (cd := v8 Go.Proofs.Tryz.f84) (H := b2i) (rl := [.tmp 4]) Go.Proofs.Tryz.func84 (by kernel_rfl) (by kernel_rfl) (by kernel_rfl) (by kernel_rfl) (by kernel_rfl) (by kernel_rfl) (by kernel_rfl)
def b8v : Hints I where
 tds := fun i => (asc [(13, [[], [], [1], [1, 2], [0, 1, 2, 3], [0, 1, 2, 3, 4], [0, 1, 2, 3, 4, 5], [0, 1, 2, 3, 4, 5, 6], [0, 1, 2, 3, 4, 5], [0, 1, 2, 3, 4, 5, 6, 7, 8], [0, 1, 2, 3, 4, 5, 6, 7, 8, 9], [0, 1, 2, 3, 4, 5], [0, 1, 2, 3, 4, 5], [0, 1, 2, 3, 4, 5, 11, 12], [0, 1, 2, 3, 4, 5, 11, 12, 13], [0, 1, 2, 3, 4, 5, 6, 7, 8, 9, 10, 11, 12, 13, 14], [0, 1, 2, 3, 4, 5, 6, 7, 8, 9, 10, 11, 12, 13, 14, 15], [0, 1, 2, 3, 4, 5, 6, 7, 8, 9, 10, 11, 12, 13, 14, 15, 16]]), (15, [[], [], [1], [1, 2], [0, 1, 2, 3], [0, 1, 2, 3, 4], [0, 1, 2, 3, 4, 5], [0, 1, 2, 3, 4, 5, 6], [0, 1, 2, 3, 4, 5], [0, 1, 2, 3, 4, 5, 6, 7, 8], [0, 1, 2, 3, 4, 5, 6, 7, 8, 9], [0, 1, 2, 3, 4, 5], [0, 1, 2, 3, 4, 5], [0, 1, 2, 3, 4, 5, 11, 12], [0, 1, 2, 3, 4, 5, 11, 12, 13], [0, 1, 2, 3, 4, 5, 6, 7, 8, 9, 10, 11, 12, 13, 14], [0, 1, 2, 3, 4, 5, 6, 7, 8, 9, 10, 11, 12, 13, 14, 15]]), (17, [[], [0], [], [0, 1, 2], [0, 1, 2, 3], [], [5], [], [5, 6, 7], [0, 1, 2, 3, 4, 5, 6, 7, 8], [0, 1, 2, 3, 4, 5, 6, 7, 8, 9], [0, 1, 2, 3, 4, 5, 6, 7, 8, 9, 10]]), (18, [[], [], [], [1, 2], [1, 2, 3], [1, 2, 3, 4], [0, 1, 2, 3, 4, 5], [], [7], [], [7, 8, 9], [0, 1, 2, 3, 4, 5, 6, 7, 8, 9, 10], [0, 1, 2, 3, 4, 5, 6, 7, 8, 9, 10, 11], [0, 1, 2, 3, 4, 5, 6, 7, 8, 9, 10, 11, 12]]), (19, [[], [], [], [1, 2], [1, 2, 3], [1, 2, 3, 4], [0, 1, 2, 3, 4, 5], [], [7], [], [7, 8, 9], [0, 1, 2, 3, 4, 5, 6, 7, 8, 9, 10], [0, 1, 2, 3, 4, 5, 6, 7, 8, 9, 10, 11], [0, 1, 2, 3, 4, 5, 6, 7, 8, 9, 10, 11, 12]])] i).getD []
 spl := fun i => (asc [] i).getD []
 pre := fun i => (asc [] i).getD []
 join := asc []
 loop := asc [(58, ⟨2147221600, [], [(4, .lvs [.d (.int .i64), .d (.int .i64), .d (.str), .row 28 false, .row 114 false, .row 30 false, .row 9 false])], [(6, .k (.d (.int .i64)))], [((.exit 0), []), (.ret, [(5, .k (.d (.int .i64)))])], bnd tb (.len (.slot 0)) 1⟩),
  (250, ⟨5192296858534827628530492034256672, [7], [(4, .lvs [.d (.int .i64), .d (.int .i64), .d (.str), .row 28 false, .row 114 false, .row 30 false, .row 9 false]), (7, .lvs [.d (.int .i64), .d (.int .i64), .d (.str), .d (.sl 28), .d (.sl 114), .row 30 true, .row 9 true])], [(8, .k (.d (.int .i64)))], [((.exit 2), []), (.ret, [(5, .k (.d (.int .i64)))])], bnd tb (.len (.slot 0)) 1⟩),
  (32036, ⟨288230101273805312, [7], [], [(9, .k (.d (.int .i64)))], [((.exit 4), [(9, .k (.d (.int .i64)))])], bnd tb (.len (.ld 24 (.fld 28 4 (.slot 7)))) 1⟩)]
 keep := asc []
def a61 : Row I := ⟨135, [.d (.sl 114), .d (.sl 28)], [.k (.d (.dat 28)), .k (.d (.int .i64))], a2r⟩
theorem b09 : y4 Go.Proofs.Tryz.prog (a61) :=
 j8 z7 (y9 (es := [j6 tb (a2t), j6 tb (a0M), j6 tb (a5r)]) ⟨z8 z7 a4V, ⟨z8 z7 a1U, ⟨z8 z7 a8W, trivial⟩⟩⟩ 3) mixed 113 (fn := Go.Proofs.Tryz.f135) (cd := v8 Go.Proofs.Tryz.f135) (H := b8v) (rl := [.cell 4 28, .tmp 5]) Go.Proofs.Tryz.func135 (by kernel_rfl) (by kernel_rfl) (by kernel_rfl) (by kernel_rfl) (by kernel_rfl) (by kernel_rfl) (by kernel_rfl)
def b6A : Hints I where
 tds := fun i => (asc [] i).getD []
 spl := fun i => (asc [] i).getD []
 pre := fun i => (asc [] i).getD []
 join := asc []
 loop := asc []
 keep := asc []
def a6d : Row I := ⟨85, [.d (.int .i64), .d (.int .i64)], [.k (.d (.int .i64))], a0D⟩
theorem a9T : y4 Go.Proofs.Tryz.prog (a6d) :=
 j8 z7 (y9 (es := [j6 tb (a3z)]) ⟨z8 z7 a6F, trivial⟩ 3) mixed 8 (fn := Go.Proofs.Tryz.f85) (cd := v8 Go.Proofs.Tryz.f85) (H := b6A) (rl := [.tmp 4]) Go.Proofs.Tryz.func85 (by kernel_rfl) (by kernel_rfl) (by kernel_rfl) (by kernel_rfl) (by kernel_rfl) (by kernel_rfl) (by kernel_rfl)
def b4Y (_ : Nat) : Hints I where
 tds := fun i => (asc [(12, [[], [0], [], [0, 1, 2], [0, 1, 2, 3], [], [5], [], [5, 6, 7], [5, 6, 7, 8], [0, 1, 2, 3, 4, 5, 6, 7, 8, 9], [0, 1, 2, 3, 4, 5, 6, 7, 8, 9, 10]]), (23, [[], [0], [], [0, 1, 2], [0, 1, 2, 3], [], [5], [], [5, 6, 7], [5, 6, 7, 8], [0, 1, 2, 3, 4, 5, 6, 7, 8, 9], [0, 1, 2, 3, 4, 5, 6, 7, 8, 9, 10]]), (31, [[], [0], [], [0, 1, 2], [0, 1, 2, 3], [], [5], [], [5, 6, 7], [5, 6, 7, 8], [0, 1, 2, 3, 4, 5, 6, 7, 8, 9], [0, 1, 2, 3, 4, 5, 6, 7, 8, 9, 10]])] i).getD []
 spl := fun i => (asc [] i).getD []
 pre := fun i => (asc [] i).getD []
 join := asc []
 loop := asc [(506, ⟨151115655394234608910448, [], [], [(5, .k (.d (.int .i64)))], [((.exit 0), []), (.ret, [(4, .k (.d (.int .i64)))])], bnd tb (.len (.ld 24 (.fld 28 4 (.slot 2)))) 1⟩),
  (8186, ⟨1329227361959615758789106311928742672, [], [], [(8, .k (.d (.int .i64)))], [((.exit 2), []), (.ret, [(4, .k (.d (.int .i64)))])], bnd tb (.len (.ld 25 (.fld 28 5 (.slot 2)))) 1⟩),
  (32762, ⟨45671904388519233253803489366408968731082361872, [], [], [(10, .k (.d (.int .i64)))], [((.exit 4), []), (.ret, [(4, .k (.d (.int .i64)))])], bnd tb (.len (.ld 26 (.fld 28 6 (.slot 2)))) 1⟩)]
 keep := asc []
def V0 (n : Nat) : Row I := ⟨53, [.d (.dat 28), .d (.dat 28)], [.k (.d (.int .i64))], a0C n⟩
def b5q (_ : Nat) : Hints I where
 tds := fun i => (asc [(6, [[], [], [0, 1], [0, 1, 2], [], [], [4, 5], [4, 5, 6], [0, 1, 2, 3, 4, 5, 6, 7], [0, 1, 2, 3, 4, 5, 6, 7, 8]])] i).getD []
 spl := fun i => (asc [] i).getD []
 pre := fun i => (asc [] i).getD []
 join := asc []
 loop := asc [(58, ⟨34359607408, [], [], [(5, .k (.d (.int .i64)))], [((.exit 0), []), (.ret, [(4, .k (.d (.int .i64)))])], bnd tb (.len (.slot 0)) 1⟩)]
 keep := asc []
def a0u (n : Nat) : Row I := ⟨88, [.d (.sl 28), .d (.sl 28)], [.k (.d (.int .i64))], a3v n⟩
def b0B (_ : Nat) : Hints I where
 tds := fun i => (asc [] i).getD []
 spl := fun i => (asc [] i).getD []
 pre := fun i => (asc [] i).getD []
 join := asc []
 loop := asc []
 keep := asc []
def Q0 (n : Nat) : Row I := ⟨70, [.d (.dat 30), .d (.dat 30)], [.k (.d (.int .i64))], Y3 n⟩
theorem b3v (n : Nat) (_ : y4 Go.Proofs.Tryz.prog (V0 n)) (h_semtyperef1_values : y4 Go.Proofs.Tryz.prog (a0u n)) (h_semtyperef1_CompareEntries : y4 Go.Proofs.Tryz.prog (Q0 n)) : y4 Go.Proofs.Tryz.prog (V0 (n + 1)) :=
 j8 z7 (y9 (es := [j6 tb (a6d), j6 tb (a3z), j6 tb (a6n), j6 tb (a0M), j6 tb (a0u n), j6 tb (Q0 n)]) ⟨z8 z7 a9T, ⟨z8 z7 a6F, ⟨z8 z7 a94, ⟨z8 z7 a1U, ⟨z8 z7 h_semtyperef1_values, ⟨z8 z7 h_semtyperef1_CompareEntries, trivial⟩⟩⟩⟩⟩⟩ 3) mixed 155 (fn := Go.Proofs.Tryz.f53) (cd := v8 Go.Proofs.Tryz.f53) (H := (b4Y n)) (rl := [.tmp 4]) Go.Proofs.Tryz.func53 (by kernel_rfl) (by kernel_rfl) (by kernel_rfl) (by kernel_rfl) (by kernel_rfl) (by kernel_rfl) (by kernel_rfl)
theorem b4e (n : Nat) (h_semtyperef1_Compare : y4 Go.Proofs.Tryz.prog (V0 n)) (_ : y4 Go.Proofs.Tryz.prog (a0u n)) (_ : y4 Go.Proofs.Tryz.prog (Q0 n)) : y4 Go.Proofs.Tryz.prog (a0u (n + 1)) :=
 j8 z7 (y9 (es := [j6 tb (a6d), j6 tb (V0 n)]) ⟨z8 z7 a9T, ⟨z8 z7 h_semtyperef1_Compare, trivial⟩⟩ 3) mixed 35 (fn := Go.Proofs.Tryz.f88) (cd := v8 Go.Proofs.Tryz.f88) (H := (b5q n)) (rl := [.tmp 4]) Go.Proofs.Tryz.func88 (by kernel_rfl) (by kernel_rfl) (by kernel_rfl) (by kernel_rfl) (by kernel_rfl) (by kernel_rfl) (by kernel_rfl)
theorem a9M (n : Nat) (h_semtyperef1_Compare : y4 Go.Proofs.Tryz.prog (V0 n)) (h_semtyperef1_values : y4 Go.Proofs.Tryz.prog (a0u n)) (_ : y4 Go.Proofs.Tryz.prog (Q0 n)) : y4 Go.Proofs.Tryz.prog (Q0 (n + 1)) :=
 j8 z7 (y9 (es := [j6 tb (a0u n), j6 tb (V0 n)]) ⟨z8 z7 h_semtyperef1_values, ⟨z8 z7 h_semtyperef1_Compare, trivial⟩⟩ 3) mixed 26 (fn := Go.Proofs.Tryz.f70) (cd := v8 Go.Proofs.Tryz.f70) (H := (b0B n)) (rl := [.tmp 4]) Go.Proofs.Tryz.func70 (by kernel_rfl) (by kernel_rfl) (by kernel_rfl) (by kernel_rfl) (by kernel_rfl) (by kernel_rfl) (by kernel_rfl)
theorem a3G : ∀ n : Nat, y4 Go.Proofs.Tryz.prog (V0 n) /\ y4 Go.Proofs.Tryz.prog (a0u n) /\ y4 Go.Proofs.Tryz.prog (Q0 n)
 | 0 => ⟨Q8 (by kernel_rfl), Q8 (by kernel_rfl), Q8 (by kernel_rfl)⟩
 | n + 1 => by
   obtain ⟨h0, h1, h2⟩ := a3G n
   exact ⟨b3v n h0 h1 h2, b4e n h0 h1 h2, a9M n h0 h1 h2⟩
theorem b3X (n : Nat) : y4 Go.Proofs.Tryz.prog (V0 n) := (a3G n).1
theorem a5v (n : Nat) : y4 Go.Proofs.Tryz.prog (Q0 n) := (a3G n).2.2
def b6F (_ : Nat) : Hints I where
 tds := fun i => (asc [] i).getD []
 spl := fun i => (asc [] i).getD []
 pre := fun i => (asc [] i).getD []
 join := asc []
 loop := asc []
 keep := asc []
def a5H (n : Nat) : Row I := ⟨27, [.d (.dat 28), .d (.dat 28)], [.k (.d (.bool))], a3S n⟩
theorem a9m (n : Nat) : y4 Go.Proofs.Tryz.prog (a5H n) :=
 j8 z7 (y9 (es := [j6 tb (V0 n)]) ⟨z8 z7 (b3X n), trivial⟩ 3) mixed 9 (fn := Go.Proofs.Tryz.f27) (cd := v8 Go.Proofs.Tryz.f27) (H := (b6F n)) (rl := [.tmp 4]) Go.Proofs.Tryz.func27 (by kernel_rfl) (by kernel_rfl) (by kernel_rfl) (by kernel_rfl) (by kernel_rfl) (by kernel_rfl) (by kernel_rfl)
def b4M (_ : Nat) : Hints I where
 tds := fun i => (asc [(6, [[], [], [1], [0, 1, 2], [0, 1, 2, 3], [0, 1, 2, 3, 4], [0, 1, 2, 3, 4], [0, 1, 2, 3, 4, 5, 6], [0, 1, 2, 3, 4, 5, 6, 7], [0, 1, 2, 3, 4], [0, 1, 2, 3, 4], [0, 1, 2, 3, 4, 9, 10], [0, 1, 2, 3, 4, 9, 10, 11], [0, 1, 2, 3, 4, 5, 6, 7, 8, 9, 10, 11, 12], [0, 1, 2, 3, 4, 5, 6, 7, 8, 9, 10, 11, 12, 13], [0, 1, 2, 3, 4, 5, 6, 7, 8, 9, 10, 11, 12, 13, 14]]), (8, [[], [], [1], [0, 1, 2], [0, 1, 2, 3], [0, 1, 2, 3, 4], [0, 1, 2, 3, 4], [0, 1, 2, 3, 4, 5, 6], [0, 1, 2, 3, 4, 5, 6, 7], [0, 1, 2, 3, 4], [0, 1, 2, 3, 4], [0, 1, 2, 3, 4, 9, 10], [0, 1, 2, 3, 4, 9, 10, 11], [0, 1, 2, 3, 4, 5, 6, 7, 8, 9, 10, 11, 12], [0, 1, 2, 3, 4, 5, 6, 7, 8, 9, 10, 11, 12, 13], [0, 1, 2, 3, 4, 5, 6, 7, 8, 9, 10, 11, 12, 13, 14]]), (10, [[], [], [], [1, 2], [1, 2, 3], [1, 2, 3, 4], [0, 1, 2, 3, 4, 5], [], [], [7, 8], [0, 1, 2, 3, 4, 5, 6, 7, 8, 9], [0, 1, 2, 3, 4, 5, 6, 7, 8, 9, 10]])] i).getD []
 spl := fun i => (asc [] i).getD []
 pre := fun i => (asc [] i).getD []
 join := asc [(466, ⟨4611686018427379816, [], [], [(.normal, [(3, .k (.d (.sl 30)))])]⟩)]
 loop := asc [(58, ⟨4611686018427387896, [], [], [(3, .k (.d (.sl 30))), (4, .k (.d (.int .i64)))], [((.exit 0), [(3, .k (.d (.sl 30)))])], bnd tb (.len (.slot 0)) 1⟩),
  (7460, ⟨2147475488, [3], [], [(5, .k (.d (.int .i64)))], [((.exit 2), [(5, .k (.d (.int .i64)))])], bnd tb (.len (.slot 3)) 1⟩)]
 keep := asc []
def a78 (n : Nat) : Row I := ⟨39, [.bor 30], [.k (.d (.sl 30))], a4I n⟩
theorem b4r (n : Nat) : y4 Go.Proofs.Tryz.prog (a78 n) :=
 j8 z7 (y9 (es := [j6 tb (Q0 n)]) ⟨z8 z7 (a5v n), trivial⟩ 3) mixed 63 (fn := Go.Proofs.Tryz.f39) (cd := v8 Go.Proofs.Tryz.f39) (H := (b4M n)) (rl := [.tmp 2]) Go.Proofs.Tryz.func39 (by kernel_rfl) (by kernel_rfl) (by kernel_rfl) (by kernel_rfl) (by kernel_rfl) (by kernel_rfl) (by kernel_rfl)
def b4m (_ : Nat) : Hints I where
 tds := fun i => (asc [] i).getD []
 spl := fun i => (asc [] i).getD []
 pre := fun i => (asc [] i).getD []
 join := asc []
 loop := asc [(58, ⟨70368744161376, [], [(4, .lvs [.d (.int .i64), .d (.int .i64), .d (.str), .row 28 false, .row 114 false, .row 30 false, .row 9 false])], [(6, .k (.d (.int .i64)))], [((.exit 0), []), (.ret, [(5, .k (.d (.int .i64)))])], bnd tb (.len (.slot 1)) 1⟩)]
 keep := asc []
def a4n (n : Nat) : Row I := ⟨14, [.d (.int .i64), .bor 30], [.k (.d (.dat 28)), .k (.d (.int .i64))], a2u n⟩
theorem a73 (n : Nat) : y4 Go.Proofs.Tryz.prog (a4n n) :=
 j8 z7 (y9 (es := [j6 tb (a5H n), j6 tb (a78 n)]) ⟨z8 z7 (a9m n), ⟨z8 z7 (b4r n), trivial⟩⟩ 3) mixed 50 (fn := Go.Proofs.Tryz.f14) (cd := v8 Go.Proofs.Tryz.f14) (H := (b4m n)) (rl := [.cell 4 28, .tmp 5]) Go.Proofs.Tryz.func14 (by kernel_rfl) (by kernel_rfl) (by kernel_rfl) (by kernel_rfl) (by kernel_rfl) (by kernel_rfl) (by kernel_rfl)
def b5Z : Hints I where
 tds := fun i => (asc [(6, [[], [], [1], [0, 1, 2], [0, 1, 2, 3], [0, 1, 2, 3, 4], [0, 1, 2, 3, 4], [0, 1, 2, 3, 4, 5, 6], [0, 1, 2, 3, 4, 5, 6, 7], [0, 1, 2, 3, 4], [0, 1, 2, 3, 4], [0, 1, 2, 3, 4, 9, 10], [0, 1, 2, 3, 4, 9, 10, 11], [0, 1, 2, 3, 4, 5, 6, 7, 8, 9, 10, 11, 12], [0, 1, 2, 3, 4, 5, 6, 7, 8, 9, 10, 11, 12, 13]]), (8, [[], [], [1], [0, 1, 2], [0, 1, 2, 3], [0, 1, 2, 3, 4], [0, 1, 2, 3, 4], [0, 1, 2, 3, 4, 5, 6], [0, 1, 2, 3, 4, 5, 6, 7], [0, 1, 2, 3, 4], [0, 1, 2, 3, 4], [0, 1, 2, 3, 4, 9, 10], [0, 1, 2, 3, 4, 9, 10, 11], [0, 1, 2, 3, 4, 5, 6, 7, 8, 9, 10, 11, 12], [0, 1, 2, 3, 4, 5, 6, 7, 8, 9, 10, 11, 12, 13]]), (10, [[], [], [], [1, 2], [1, 2, 3], [1, 2, 3, 4], [0, 1, 2, 3, 4, 5], [], [], [7, 8], [0, 1, 2, 3, 4, 5, 6, 7, 8, 9], [0, 1, 2, 3, 4, 5, 6, 7, 8, 9, 10]])] i).getD []
 spl := fun i => (asc [] i).getD []
 pre := fun i => (asc [] i).getD []
 join := asc [(466, ⟨1152921504606838888, [], [], [(.normal, [(3, .k (.d (.sl 9)))])]⟩)]
 loop := asc [(58, ⟨1152921504606846968, [], [], [(3, .k (.d (.sl 9))), (4, .k (.d (.int .i64)))], [((.exit 0), [(3, .k (.d (.sl 9)))])], bnd tb (.len (.slot 0)) 1⟩),
  (7460, ⟨1073733664, [3], [], [(5, .k (.d (.int .i64)))], [((.exit 2), [(5, .k (.d (.int .i64)))])], bnd tb (.len (.slot 3)) 1⟩)]
 keep := asc []
def a3h : Row I := ⟨50, [.d (.sl 9)], [.k (.d (.sl 9))], a0t⟩
theorem a5G : y4 Go.Proofs.Tryz.prog (a3h) :=
 j8 z7 (y9 (es := []) trivial 3) mixed 61 (fn := Go.Proofs.Tryz.f50) (cd := v8 Go.Proofs.Tryz.f50) (H := b5Z) (rl := [.tmp 2]) Go.Proofs.Tryz.func50 (by kernel_rfl) (by kernel_rfl) (by kernel_rfl) (by kernel_rfl) (by kernel_rfl) (by kernel_rfl) (by kernel_rfl)
def b24 : Hints I where
 tds := fun i => (asc [] i).getD []
 spl := fun i => (asc [] i).getD []
 pre := fun i => (asc [] i).getD []
 join := asc []
 loop := asc []
 keep := asc []
def a6R : Row I := ⟨24, [.d (.dat 28), .d (.sl 9)], [.k (.d (.dat 28))], a5q⟩
theorem b2f : y4 Go.Proofs.Tryz.prog (a6R) :=
 j8 z7 (y9 (es := [j6 tb (a3h)]) ⟨z8 z7 a5G, trivial⟩ 3) mixed 9 (fn := Go.Proofs.Tryz.f24) (cd := v8 Go.Proofs.Tryz.f24) (H := b24) (rl := [.cell 4 28]) Go.Proofs.Tryz.func24 (by kernel_rfl) (by kernel_rfl) (by kernel_rfl) (by kernel_rfl) (by kernel_rfl) (by kernel_rfl) (by kernel_rfl)
def b66 : Hints I where
 tds := fun i => (asc [] i).getD []
 spl := fun i => (asc [] i).getD []
 pre := fun i => (asc [] i).getD []
 join := asc []
 loop := asc []
 keep := asc []
def a9K : Row I := ⟨166, [.d (.dat 28), .d (.dat 28)], [.k (.d (.dat 28))], a6o⟩
theorem b6v : y4 Go.Proofs.Tryz.prog (a9K) :=
 j8 z7 (y9 (es := []) trivial 3) mixed 9 (fn := Go.Proofs.Tryz.f166) (cd := v8 Go.Proofs.Tryz.f166) (H := b66) (rl := [.cell 4 28]) Go.Proofs.Tryz.func166 (by kernel_rfl) (by kernel_rfl) (by kernel_rfl) (by kernel_rfl) (by kernel_rfl) (by kernel_rfl) (by kernel_rfl)
def b06 : Hints I where
 tds := fun i => (asc [] i).getD []
 spl := fun i => (asc [] i).getD []
 pre := fun i => (asc [] i).getD []
 join := asc [(29, ⟨1048456, [], [(0, .k (.d (.dat 76)))], [(.normal, [(3, .k (.row 9 false))])]⟩)]
 loop := asc []
 keep := asc []
def a2K : Row I := ⟨137, [.var 76 (.k (.d (.dat 76))) true], [.k (.d (.sl 9))], a1d⟩
theorem a58 : y4 Go.Proofs.Tryz.prog (a2K) :=
 j8 z7 (y9 (es := [j6 tb (w9), j6 tb (a23), j6 tb (a3h)]) ⟨z8 z7 Z3, ⟨z8 z7 a6j, ⟨z8 z7 a5G, trivial⟩⟩⟩ 3) mixed 22 (fn := Go.Proofs.Tryz.f137) (cd := v8 Go.Proofs.Tryz.f137) (H := b06) (rl := [.tmp 2]) Go.Proofs.Tryz.func137 (by kernel_rfl) (by kernel_rfl) (by kernel_rfl) (by kernel_rfl) (by kernel_rfl) (by kernel_rfl) (by kernel_rfl)
def b2S : Hints I where
 tds := fun i => (asc [] i).getD []
 spl := fun i => (asc [] i).getD []
 pre := fun i => (asc [] i).getD []
 join := asc []
 loop := asc []
 keep := asc []
def a6O : Row I := ⟨167, [.var 76 (.k (.d (.dat 76))) true], [.k (.d (.dat 114))], a3k⟩
theorem b1X : y4 Go.Proofs.Tryz.prog (a6O) :=
 j8 z7 (y9 (es := [j6 tb (w9), j6 tb (a0l), j6 tb (a0L)]) ⟨z8 z7 Z3, ⟨z8 z7 a1f, ⟨z8 z7 a1V, trivial⟩⟩⟩ 3) mixed 12 (fn := Go.Proofs.Tryz.f167) (cd := v8 Go.Proofs.Tryz.f167) (H := b2S) (rl := [.cell 2 114]) Go.Proofs.Tryz.func167 (by kernel_rfl) (by kernel_rfl) (by kernel_rfl) (by kernel_rfl) (by kernel_rfl) (by kernel_rfl) (by kernel_rfl)
def b1s (_ : Nat) : Hints I where
 tds := fun i => (asc [] i).getD []
 spl := fun i => (asc [] i).getD []
 pre := fun i => (asc [] i).getD []
 join := asc []
 loop := asc []
 keep := asc []
def J0 (n : Nat) : Row I := ⟨100, [.var 76 (.k (.d (.dat 76))) true, .d (.int .i64)], [.k (.d (.dat 28))], a2k n⟩
def b1u (_ : Nat) : Hints I where
 tds := fun i => (asc [(16, [[], [], [1], [0, 1, 2], [], [0, 1, 2, 3, 4], [0, 1, 2, 3, 4, 5]])] i).getD []
 spl := fun i => (asc [(13, [46])] i).getD []
 pre := fun i => (asc [] i).getD []
 join := asc [(29, ⟨5316911983139663491615228241104863200, [], [(0, .k (.d (.dat 76))), (4, .lvs [.d (.int .i64), .d (.int .i64), .d (.str), .d (.sl 28), .d (.sl 114), .d (.sl 30), .d (.sl 9)])], [(.normal, []), (.ret, [])]⟩),
  (7540, ⟨2234207627640832, [], [(0, .k (.d (.dat 76)))], [(.normal, [(50, .k (.d (.bool)))])]⟩),
  (7541, ⟨141863388262170624, [], [(0, .k (.d (.dat 76))), (7, .k (.d (.dat 28)))], [(.normal, [])]⟩)]
 loop := asc [(3754, ⟨549487378528, [], [(0, .k (.d (.dat 76)))], [(5, .k (.row 28 false)), (6, .k (.d (.int .i64)))], [((.exit 1), [(5, .k (.row 28 false))])], bnd tb (.slot 6) 2⟩),
  (120794, ⟨77370071863715549769893632, [], [(0, .k (.d (.dat 76)))], [(8, .k (.row 114 false)), (9, .k (.row 28 false)), (10, .k (.d (.int .i64)))], [((.exit 3), [(8, .k (.row 114 false)), (9, .k (.row 28 false))])], bnd tb (.slot 10) 2⟩),
  (483290, ⟨10382058415869198798257999252078592, [], [(0, .k (.d (.dat 76)))], [(14, .k (.row 30 false)), (15, .k (.d (.int .i64)))], [((.exit 5), [(14, .k (.row 30 false))])], bnd tb (.slot 15) 2⟩)]
 keep := asc []
def X8 (n : Nat) : Row I := ⟨136, [.var 76 (.k (.d (.dat 76))) true, .d (.int .i64)], [.k (.d (.dat 28))], b3d n⟩
def b1p (_ : Nat) : Hints I where
 tds := fun i => (asc [(4, [[], [0], [], [], [2, 3], [2, 3, 4], [0, 1, 2, 3, 4, 5], [0, 1, 2, 3, 4, 5, 6], [0, 1, 2, 3, 4, 5, 6, 7]])] i).getD []
 spl := fun i => (asc [] i).getD []
 pre := fun i => (asc [] i).getD []
 join := asc []
 loop := asc [(28, ⟨1048322, [], [(0, .k (.d (.dat 76))), (7, .lvs [.row 28 false, .d (.bool), .d (.int .i64), .d (.int .i64), .d (.str), .row 28 false, .row 114 false, .row 30 false, .row 9 false])], [(1, .k (.d (.int .i64)))], [((.exit 0), [])], bnd tb (.slot 1) 2⟩)]
 keep := asc []
def X9 (n : Nat) : Row I := ⟨168, [.var 76 (.k (.d (.dat 76))) true, .d (.int .i64), .d (.int .i64)], [.k (.d (.dat 30))], b2C n⟩
theorem b0h (n : Nat) (_ : y4 Go.Proofs.Tryz.prog (J0 n)) (h_semtypebase_Source_value : y4 Go.Proofs.Tryz.prog (X8 n)) (_ : y4 Go.Proofs.Tryz.prog (X9 n)) : y4 Go.Proofs.Tryz.prog (J0 (n + 1)) :=
 j8 z7 (y9 (es := [j6 tb (X8 n), j6 tb (a2K)]) ⟨z8 z7 h_semtypebase_Source_value, ⟨z8 z7 a58, trivial⟩⟩ 3) mixed 13 (fn := Go.Proofs.Tryz.f100) (cd := v8 Go.Proofs.Tryz.f100) (H := (b1s n)) (rl := [.cell 4 28]) Go.Proofs.Tryz.func100 (by kernel_rfl) (by kernel_rfl) (by kernel_rfl) (by kernel_rfl) (by kernel_rfl) (by kernel_rfl) (by kernel_rfl)
theorem b0q (n : Nat) (h_semtypebase_Source_Value : y4 Go.Proofs.Tryz.prog (J0 n)) (_ : y4 Go.Proofs.Tryz.prog (X8 n)) (h_semtypebase_Source_entry : y4 Go.Proofs.Tryz.prog (X9 n)) : y4 Go.Proofs.Tryz.prog (X8 (n + 1)) :=
 j8 z7 (y9 (es := [j6 tb (a1H), j6 tb (w9), j6 tb (J0 n), j6 tb (a5M), j6 tb (a09), j6 tb (a9K), j6 tb (a2K), j6 tb (a6O), j6 tb (a61), j6 tb (X9 n), j6 tb (a4n n)]) ⟨z8 z7 a3K, ⟨z8 z7 Z3, ⟨z8 z7 h_semtypebase_Source_Value, ⟨z8 z7 a9k, ⟨z8 z7 a15, ⟨z8 z7 b6v, ⟨z8 z7 a58, ⟨z8 z7 b1X, ⟨z8 z7 b09, ⟨z8 z7 h_semtypebase_Source_entry, ⟨z8 z7 (a73 n), trivial⟩⟩⟩⟩⟩⟩⟩⟩⟩⟩⟩ 3) mixed 124 (fn := Go.Proofs.Tryz.f136) (cd := v8 Go.Proofs.Tryz.f136) (H := (b1u n)) (rl := [.cell 4 28]) Go.Proofs.Tryz.func136 (by kernel_rfl) (by kernel_rfl) (by kernel_rfl) (by kernel_rfl) (by kernel_rfl) (by kernel_rfl) (by kernel_rfl)
theorem b0k (n : Nat) (h_semtypebase_Source_Value : y4 Go.Proofs.Tryz.prog (J0 n)) (_ : y4 Go.Proofs.Tryz.prog (X8 n)) (_ : y4 Go.Proofs.Tryz.prog (X9 n)) : y4 Go.Proofs.Tryz.prog (X9 (n + 1)) :=
 j8 z7 (y9 (es := [j6 tb (J0 n), j6 tb (w9)]) ⟨z8 z7 h_semtypebase_Source_Value, ⟨z8 z7 Z3, trivial⟩⟩ 3) mixed 30 (fn := Go.Proofs.Tryz.f168) (cd := v8 Go.Proofs.Tryz.f168) (H := (b1p n)) (rl := [.cell 6 30]) Go.Proofs.Tryz.func168 (by kernel_rfl) (by kernel_rfl) (by kernel_rfl) (by kernel_rfl) (by kernel_rfl) (by kernel_rfl) (by kernel_rfl)
theorem a4R : ∀ n : Nat, y4 Go.Proofs.Tryz.prog (J0 n) /\ y4 Go.Proofs.Tryz.prog (X8 n) /\ y4 Go.Proofs.Tryz.prog (X9 n)
 | 0 => ⟨Q8 (by kernel_rfl), Q8 (by kernel_rfl), Q8 (by kernel_rfl)⟩
 | n + 1 => by
   obtain ⟨h0, h1, h2⟩ := a4R n
   exact ⟨b0h n h0 h1 h2, b0q n h0 h1 h2, b0k n h0 h1 h2⟩
theorem b0X (n : Nat) : y4 Go.Proofs.Tryz.prog (J0 n) := (a4R n).1
def b6G : Hints I where
 tds := fun i => (asc [] i).getD []
 spl := fun i => (asc [] i).getD []
 pre := fun i => (asc [] i).getD []
 join := asc []
 loop := asc []
 keep := asc []
def a9b : Row I := ⟨132, [.d (.int .u8)], [.k (.d (.bool))], a3Q⟩
theorem b5S : y4 Go.Proofs.Tryz.prog (a9b) :=
 j8 z7 (y9 (es := []) trivial 3) mixed 9 (fn := Go.Proofs.Tryz.f132) (cd := v8 Go.Proofs.Tryz.f132) (H := b6G) (rl := [.tmp 2]) Go.Proofs.Tryz.func132 (by kernel_rfl) (by kernel_rfl) (by kernel_rfl) (by kernel_rfl) (by kernel_rfl) (by kernel_rfl) (by kernel_rfl)
def b2X : Hints I where
 tds := fun i => (asc [] i).getD []
 spl := fun i => (asc [] i).getD []
 pre := fun i => (asc [] i).getD []
 join := asc []
 loop := asc [(58, ⟨562949953159180, [], [], [(3, .k (.d (.int .i64)))], [((.exit 0), []), (.ret, [(2, .k (.d (.bool)))])], bnd tb (.len (.slot 0)) 1⟩)]
 keep := asc []
def a3F : Row I := ⟨81, [.d (.str)], [.k (.d (.bool))], a1R⟩
theorem a7e : y4 Go.Proofs.Tryz.prog (a3F) :=
 j8 z7 (y9 (es := [j6 tb (a9b), j6 tb (a5R), j6 tb (a5Z)]) ⟨z8 z7 b5S, ⟨z8 z7 a9U, ⟨z8 z7 a9A, trivial⟩⟩⟩ 3) mixed 49 (fn := Go.Proofs.Tryz.f81) (cd := v8 Go.Proofs.Tryz.f81) (H := b2X) (rl := [.tmp 2]) Go.Proofs.Tryz.func81 (by kernel_rfl) (by kernel_rfl) (by kernel_rfl) (by kernel_rfl) (by kernel_rfl) (by kernel_rfl) (by kernel_rfl)
def b7n (_ : Nat) : Hints I where
 tds := fun i => (asc [(4, [[], [0], [], [0, 1, 2], [0, 1, 2, 3], [0, 1, 2, 3, 4], [0, 1, 2, 3, 4, 5], [0, 1, 2, 3, 4, 5, 6], [0, 1, 2, 3, 4, 5, 6, 7], [0, 1, 2, 3, 4, 5, 6, 7, 8], [0, 1, 2, 3, 4, 5, 6, 7, 8, 9], [0, 1, 2, 3, 4, 5, 6, 7, 8, 9, 10], [0, 1, 2, 3, 4, 5, 6, 7, 8, 9, 10, 11], [0, 1, 2, 3, 4, 5, 6, 7, 8, 9, 10], [0, 1, 2, 3, 4, 5, 6, 7, 8, 9, 10, 13], [0, 1, 2, 3, 4, 5, 6, 7, 8, 9, 10, 11, 12, 13, 14], [0, 1, 2, 3, 4, 5, 6, 7, 8, 9, 10, 11, 12, 13, 14, 15], [0, 1, 2, 3, 4, 5, 6, 7, 8, 9, 10], [0, 1, 2, 3, 4, 5, 6, 7, 8, 9, 10, 17], [0, 1, 2, 3, 4, 5, 6, 7, 8, 9, 10], [0, 1, 2, 3, 4, 5, 6, 7, 8, 9, 10, 17, 18, 19], [0, 1, 2, 3, 4, 5, 6, 7, 8, 9, 10, 17, 18, 19, 20], [0, 1, 2, 3, 4, 5, 6, 7, 8, 9, 10, 11, 12, 13, 14, 15, 16, 17, 18, 19, 20, 21], [0, 1, 2, 3, 4, 5, 6, 7, 8, 9, 10, 11, 12, 13, 14, 15, 16, 17, 18, 19, 20, 21, 22], [0, 1, 2, 3, 4, 5, 6, 7, 8, 9, 10, 11, 12, 13, 14, 15, 16, 17, 18, 19, 20, 21, 22, 23]]), (29, [[], [0], [], [0, 1, 2], [0, 1, 2, 3], [0, 1, 2, 3, 4], [0, 1, 2, 3, 4, 5], [0, 1, 2, 3, 4, 5, 6], [0, 1, 2, 3, 4, 5, 6, 7], [0, 1, 2, 3, 4, 5, 6, 7, 8], [0, 1, 2, 3, 4, 5, 6, 7, 8, 9], [0, 1, 2, 3, 4, 5, 6, 7, 8, 9, 10], [0, 1, 2, 3, 4, 5, 6, 7, 8, 9, 10, 11], [0, 1, 2, 3, 4, 5, 6, 7, 8, 9, 10], [0, 1, 2, 3, 4, 5, 6, 7, 8, 9, 10, 13], [0, 1, 2, 3, 4, 5, 6, 7, 8, 9, 10, 11, 12, 13, 14], [0, 1, 2, 3, 4, 5, 6, 7, 8, 9, 10, 11, 12, 13, 14, 15], [0, 1, 2, 3, 4, 5, 6, 7, 8, 9, 10], [0, 1, 2, 3, 4, 5, 6, 7, 8, 9, 10, 17], [0, 1, 2, 3, 4, 5, 6, 7, 8, 9, 10], [0, 1, 2, 3, 4, 5, 6, 7, 8, 9, 10, 17, 18, 19], [0, 1, 2, 3, 4, 5, 6, 7, 8, 9, 10, 17, 18, 19, 20], [0, 1, 2, 3, 4, 5, 6, 7, 8, 9, 10, 11, 12, 13, 14, 15, 16, 17, 18, 19, 20, 21], [0, 1, 2, 3, 4, 5, 6, 7, 8, 9, 10, 11, 12, 13, 14, 15, 16, 17, 18, 19, 20, 21, 22], [0, 1, 2, 3, 4, 5, 6, 7, 8, 9, 10, 11, 12, 13, 14, 15, 16, 17, 18, 19, 20, 21, 22, 23], [0, 1, 2, 3, 4, 5, 6, 7, 8, 9, 10, 11, 12, 13, 14, 15, 16, 17, 18, 19, 20, 21, 22, 23, 24]]), (39, [[], [0], [0, 1], [], [3], [0, 1, 2, 3, 4], [0, 1, 2, 3, 4, 5], [0, 1, 2, 3, 4, 5, 6], [0, 1, 2, 3, 4, 5, 6, 7], [0, 1, 2, 3, 4, 5, 6, 7, 8], [0, 1, 2, 3, 4, 5, 6, 7, 8, 9], [0, 1, 2, 3, 4, 5, 6, 7, 8, 9, 10], [0, 1, 2, 3, 4, 5, 6, 7, 8, 9], [0, 1, 2, 3, 4, 5, 6, 7, 8, 9, 10, 11, 12], [0, 1, 2, 3, 4, 5, 6, 7, 8, 9, 10, 11, 12, 13], [0, 1, 2, 3, 4, 5, 6, 7, 8, 9, 10, 11, 12, 13, 14], [0, 1, 2, 3, 4, 5, 6, 7, 8, 9, 10, 11, 12, 13, 14, 15], [0, 1, 2, 3, 4, 5, 6, 7, 8, 9, 10, 11, 12, 13, 14, 15, 16], [0, 1, 2, 3, 4, 5, 6, 7, 8, 9, 10, 11, 12, 13, 14, 15, 16, 17], [0, 1, 2, 3, 4, 5, 6, 7, 8, 9, 10, 11, 12, 13, 14, 15, 16, 17, 18], [0, 1, 2, 3, 4, 5, 6, 7, 8, 9, 10, 11, 12, 13, 14, 15, 16, 17, 18, 19], [0, 1, 2, 3, 4, 5, 6, 7, 8, 9, 10, 11, 12, 13, 14, 15, 16, 17, 18, 19, 20], [0, 1, 2, 3, 4, 5, 6, 7, 8, 9, 10, 11, 12, 13, 14, 15, 16, 17, 18, 19, 20, 21], [0, 1, 2, 3, 4, 5, 6, 7, 8, 9, 10, 11, 12, 13, 14, 15, 16, 17, 18, 19, 20], [0, 1, 2, 3, 4, 5, 6, 7, 8, 9, 10, 11, 12, 13, 14, 15, 16, 17, 18, 19, 20, 23], [0, 1, 2, 3, 4, 5, 6, 7, 8, 9, 10, 11, 12, 13, 14, 15, 16, 17, 18, 19, 20, 21, 22, 23, 24], [0, 1, 2, 3, 4, 5, 6, 7, 8, 9, 10, 11, 12, 13, 14, 15, 16, 17, 18, 19, 20, 21, 22, 23, 24, 25], [0, 1, 2, 3, 4, 5, 6, 7, 8, 9, 10, 11, 12, 13, 14, 15, 16, 17, 18, 19, 20], [0, 1, 2, 3, 4, 5, 6, 7, 8, 9, 10, 11, 12, 13, 14, 15, 16, 17, 18, 19, 20, 21, 22, 23, 24, 25, 26, 27], [0, 1, 2, 3, 4, 5, 6, 7, 8, 9, 10, 11, 12, 13, 14, 15, 16, 17, 18, 19, 20, 21, 22, 23, 24, 25, 26, 27, 28], [0, 1, 2, 3, 4, 5, 6, 7, 8, 9, 10, 11, 12, 13, 14, 15, 16, 17, 18, 19, 20, 21, 22, 23, 24, 25, 26, 27, 28, 29], [0, 1, 2, 3, 4, 5, 6, 7, 8, 9, 10, 11, 12, 13, 14, 15, 16, 17, 18, 19, 20, 21, 22, 23, 24, 25, 26, 27, 28, 29, 30]])] i).getD []
 spl := fun i => (asc [] i).getD []
 pre := fun i => (asc [] i).getD []
 join := asc [(4073, ⟨425352958651173079329218259289710264320, [], [], [(.normal, [(126, .k (.d (.bool)))])]⟩)]
 loop := asc [(26, ⟨4398046510092, [], [], [(3, .k (.d (.int .i64)))], [((.exit 0), []), (.ret, [(2, .k (.d (.bool)))])], bnd tb (.len (.ld 26 (.fld 28 6 (.slot 1)))) 1⟩),
  (133562354, ⟨411376139282411024886683268815639281647236804420309368268914820, [], [], [(7, .k (.d (.int .i64)))], [((.exit 3), []), (.ret, [(2, .k (.d (.bool)))])], bnd tb (.len (.ld 24 (.fld 28 4 (.slot 1)))) 1⟩),
  (1068498922, ⟨948568795032040353016559207911582007103813675119580226322391447047862150789858052, [], [], [(8, .k (.d (.int .i64)))], [((.exit 5), []), (.ret, [(2, .k (.d (.bool)))])], bnd tb (.len (.ld 25 (.fld 28 5 (.slot 1)))) 1⟩)]
 keep := asc []
def a9w (n : Nat) : Row I := ⟨52, [.d (.dat 28)], [.k (.d (.bool))], a6E n⟩
theorem b6E (n : Nat) : y4 Go.Proofs.Tryz.prog (a9w n) :=
 j8 z7 (y9 (es := [j6 tb (a3F), j6 tb (a3g), j6 tb (a2t), j6 tb (a0M), j6 tb (a5H n), j6 tb (Q0 n)]) ⟨z8 z7 a7e, ⟨z8 z7 a6c, ⟨z8 z7 a4V, ⟨z8 z7 a1U, ⟨z8 z7 (a9m n), ⟨z8 z7 (a5v n), trivial⟩⟩⟩⟩⟩⟩ 3) mixed 269 (fn := Go.Proofs.Tryz.f52) (cd := v8 Go.Proofs.Tryz.f52) (H := (b7n n)) (rl := [.tmp 2]) Go.Proofs.Tryz.func52 (by kernel_rfl) (by kernel_rfl) (by kernel_rfl) (by kernel_rfl) (by kernel_rfl) (by kernel_rfl) (by kernel_rfl)
def b6L (_ : Nat) : Hints I where
 tds := fun i => (asc [] i).getD []
 spl := fun i => (asc [] i).getD []
 pre := fun i => (asc [] i).getD []
 join := asc []
 loop := asc [(58, ⟨16776204, [], [], [(3, .k (.d (.int .i64)))], [((.exit 0), []), (.ret, [(2, .k (.d (.bool)))])], bnd tb (.len (.ld 23 (.fld 28 3 (.slot 1)))) 1⟩),
  (122, ⟨576460752286646388, [], [], [(4, .k (.d (.int .i64)))], [((.exit 2), []), (.ret, [(2, .k (.d (.bool)))])], bnd tb (.len (.ld 25 (.fld 28 5 (.slot 1)))) 1⟩),
  (31306, ⟨1125831187365956, [], [], [(6, .k (.d (.int .i64)))], [((.exit 4), []), (.ret, [(2, .k (.d (.bool)))])], bnd tb (.len (.ld 23 (.fld 30 0 (.slot 5)))) 1⟩)]
 keep := asc []
def a0F (n : Nat) : Row I := ⟨26, [.d (.dat 28)], [.k (.d (.bool))], X0 n⟩
theorem b40 (n : Nat) (h_semtyperef1_Valid : y4 Go.Proofs.Tryz.prog (a0F n)) : y4 Go.Proofs.Tryz.prog (a0F (n + 1)) :=
 j8 z7 (y9 (es := [j6 tb (a9w n), j6 tb (a0F n)]) ⟨z8 z7 (b6E n), ⟨z8 z7 h_semtyperef1_Valid, trivial⟩⟩ 3) mixed 59 (fn := Go.Proofs.Tryz.f26) (cd := v8 Go.Proofs.Tryz.f26) (H := (b6L n)) (rl := [.tmp 2]) Go.Proofs.Tryz.func26 (by kernel_rfl) (by kernel_rfl) (by kernel_rfl) (by kernel_rfl) (by kernel_rfl) (by kernel_rfl) (by kernel_rfl)
theorem a36 : ∀ n : Nat, y4 Go.Proofs.Tryz.prog (a0F n)
 | 0 => Q8 (by kernel_rfl)
 | n + 1 => b40 n (a36 n)
def b2j (_ : Nat) : Hints I where
 tds := fun i => (asc [] i).getD []
 spl := fun i => (asc [] i).getD []
 pre := fun i => (asc [] i).getD []
 join := asc []
 loop := asc []
 keep := asc []
def Y6 (n : Nat) : Row I := ⟨31, [.var 76 (.k (.d (.dat 76))) true, .d (.dat 36), .d (.int .i64), .d (.int .i64)], [.k (.d (.dat 28))], a0P n⟩
def b2b (_ : Nat) : Hints I where
 tds := fun i => (asc [(7, [[], [0], [], [2], [], [4], [], [6], [6, 7], [], [9], [9, 10], [6, 7, 8, 9, 10, 11], [4, 5, 6, 7, 8, 9, 10, 11, 12], [0, 1, 2, 3, 4, 5, 6, 7, 8, 9, 10, 11, 12, 13], [], [15], [0, 1, 2, 3, 4, 5, 6, 7, 8, 9, 10, 11, 12, 13, 14, 15, 16], [0, 1, 2, 3, 4, 5, 6, 7, 8, 9, 10, 11, 12, 13, 14, 15, 16, 17], [0, 1, 2, 3, 4, 5, 6, 7, 8, 9, 10, 11, 12, 13, 14, 15, 16, 17, 18], [0, 1, 2, 3, 4, 5, 6, 7, 8, 9, 10, 11, 12, 13, 14, 15, 16, 17, 18, 19]]), (25, [[], [0], [], [], [], [4], [], [4, 5, 6], [4, 5, 6, 7], [], [9], [2, 3, 4, 5, 6, 7, 8, 9, 10], [2, 3, 4, 5, 6, 7, 8, 9, 10, 11], [0, 1, 2, 3, 4, 5, 6, 7, 8, 9, 10, 11, 12], [0, 1, 2, 3, 4, 5, 6, 7, 8, 9, 10, 11, 12, 13], [0, 1, 2, 3, 4, 5, 6, 7, 8, 9, 10, 11, 12, 13, 14]]), (30, [[], [0], [], [0, 1, 2], [0, 1, 2, 3]]), (37, [[], [], [], [2], [], [], [5], [5, 6], [4, 5, 6, 7], [2, 3, 4, 5, 6, 7, 8], [2, 3, 4, 5, 6, 7, 8, 9], [], [0, 1, 2, 3, 4, 5, 6, 7, 8, 9, 10, 11], [0, 1, 2, 3, 4, 5, 6, 7, 8, 9, 10, 11, 12]]), (39, [[], [], [], [2], [], [], [5], [5, 6], [4, 5, 6, 7], [2, 3, 4, 5, 6, 7, 8], [2, 3, 4, 5, 6, 7, 8, 9], [], [0, 1, 2, 3, 4, 5, 6, 7, 8, 9, 10, 11], [0, 1, 2, 3, 4, 5, 6, 7, 8, 9, 10, 11, 12]]), (43, [[], [0], [], [2], [], [2, 3, 4], [2, 3, 4, 5], [0, 1, 2, 3, 4, 5, 6], [0, 1, 2, 3, 4, 5, 6, 7], [0, 1, 2, 3, 4, 5, 6, 7, 8], [0, 1, 2, 3, 4, 5, 6, 7, 8, 9]]), (44, [[], [0], [0, 1], [], [3], [], [5], [], [5, 6, 7], [5, 6, 7, 8], [3, 4, 5, 6, 7, 8, 9], [3, 4, 5, 6, 7, 8, 9, 10], [3, 4, 5, 6, 7, 8, 9, 10, 11], [3, 4, 5, 6, 7, 8, 9, 10, 11, 12], [0, 1, 2, 3, 4, 5, 6, 7, 8, 9, 10, 11, 12, 13], [0, 1, 2, 3, 4, 5, 6, 7, 8, 9, 10, 11, 12, 13, 14], [0, 1, 2, 3, 4, 5, 6, 7, 8, 9, 10, 11, 12, 13, 14, 15], [0, 1, 2, 3, 4, 5, 6, 7, 8, 9, 10, 11, 12, 13, 14, 15, 16]]), (47, [[], [0], [], [2], [2, 3], [0, 1, 2, 3, 4], [0, 1, 2, 3, 4, 5]])] i).getD []
 spl := fun i => (asc [] i).getD []
 pre := fun i => (asc [] i).getD []
 join := asc [(16449533, ⟨386856262276681335905976320, [], [], [(.normal, [(86, .k (.d (.bool)))])]⟩),
  (263192557, ⟨85029053355366337244815407887308292096, [], [(10, .lvs [.d (.int .i64), .d (.int .i64), .d (.str), .row 28 false, .row 114 false, .row 30 false, .row 9 false])], [(.normal, [])]⟩),
  (539018395474, ⟨102844034449451492418213359320247649773843695697413960913387520, [], [(10, .k (.d (.dat 28)))], [(.normal, [])]⟩)]
 loop := asc [(131596274, ⟨2596147810297394171575110715049984, [], [(0, .k (.d (.dat 76))), (10, .lvs [.d (.int .i64), .d (.int .i64), .d (.str), .row 28 false, .row 114 false, .row 30 false, .row 9 false])], [(11, .k (.d (.int .i64)))], [((.exit 1), [])], bnd tb (.len (.ld 22 (.fld 72 4 (.slot 9)))) 1⟩),
  (67377299434, ⟨102844034829582222281431884733353260024018043977843391611277312, [], [(10, .k (.d (.dat 28)))], [(12, .k (.d (.int .i64)))], [((.exit 3), [])], bnd tb (.len (.ld 22 (.fld 72 4 (.slot 9)))) 1⟩)]
 keep := asc []
def K4 (n : Nat) : Row I := ⟨55, [.var 76 (.k (.d (.dat 76))) true, .d (.dat 36), .d (.int .i64), .d (.int .i64)], [.k (.d (.dat 28))], b3x n⟩
def a8y (_ : Nat) : Hints I where
 tds := fun i => (asc [(10, [[], [0], [], [], [], [4], [], [4, 5, 6], [4, 5, 6, 7], [], [9], [2, 3, 4, 5, 6, 7, 8, 9, 10], [2, 3, 4, 5, 6, 7, 8, 9, 10, 11], [0, 1, 2, 3, 4, 5, 6, 7, 8, 9, 10, 11, 12], [0, 1, 2, 3, 4, 5, 6, 7, 8, 9, 10, 11, 12, 13], [0, 1, 2, 3, 4, 5, 6, 7, 8, 9, 10, 11, 12, 13, 14]]), (13, [[], [], [], [2], [], [2, 3, 4], [2, 3, 4, 5], [], [7], [0, 1, 2, 3, 4, 5, 6, 7, 8], [0, 1, 2, 3, 4, 5, 6, 7, 8, 9], [0, 1, 2, 3, 4, 5, 6, 7, 8, 9, 10]])] i).getD []
 spl := fun i => (asc [] i).getD []
 pre := fun i => (asc [] i).getD []
 join := asc [(31309, ⟨2305280059260272640, [], [(0, .k (.d (.dat 76))), (12, .lvs [.row 28 false, .d (.bool), .d (.int .i64), .d (.int .i64), .d (.str), .d (.sl 28), .d (.sl 114), .d (.sl 30), .d (.sl 9)])], [(.normal, [])]⟩)]
 loop := asc [(122, ⟨36893488147414923776, [], [(0, .k (.d (.dat 76)))], [(9, .k (.row 30 false)), (11, .k (.d (.int .i64)))], [((.exit 0), [(9, .k (.row 30 false))])], bnd tb (.slot 11) 2⟩),
  (31306, ⟨70368677076992, [], [(0, .k (.d (.dat 76))), (12, .lvs [.row 28 false, .d (.bool), .d (.int .i64), .d (.int .i64), .d (.str), .row 28 false, .row 114 false, .row 30 false, .row 9 false])], [(13, .k (.d (.int .i64)))], [((.exit 2), [])], bnd tb (.slot 10) 1⟩)]
 keep := asc []
def Q6 (n : Nat) : Row I := ⟨99, [.var 76 (.k (.d (.dat 76))) true, .d (.dat 36), .d (.dat 72), .d (.int .i64)], [.k (.d (.dat 28))], a9g n⟩
def b0i (_ : Nat) : Hints I where
 tds := fun i => (asc [(8, [[], [], [], [], [3], [], [3, 4, 5], [3, 4, 5, 6], [3, 4, 5, 6, 7], [], [9], [1, 2, 3, 4, 5, 6, 7, 8, 9, 10], [1, 2, 3, 4, 5, 6, 7, 8, 9, 10, 11], [0, 1, 2, 3, 4, 5, 6, 7, 8, 9, 10, 11, 12], [0, 1, 2, 3, 4, 5, 6, 7, 8, 9, 10, 11, 12, 13]]), (12, [[], [], [], [], [3], [], [3, 4, 5], [3, 4, 5, 6], [], [8], [1, 2, 3, 4, 5, 6, 7, 8, 9], [1, 2, 3, 4, 5, 6, 7, 8, 9, 10], [0, 1, 2, 3, 4, 5, 6, 7, 8, 9, 10, 11], [0, 1, 2, 3, 4, 5, 6, 7, 8, 9, 10, 11, 12]])] i).getD []
 spl := fun i => (asc [(6, [28])] i).getD []
 pre := fun i => (asc [] i).getD []
 join := asc [(125, ⟨604462333346562283935232, [], [(0, .k (.d (.dat 76)))], [(.normal, [(9, .k (.row 114 false)), (10, .k (.row 28 false))])]⟩),
  (978, ⟨72057594033735168, [], [(0, .k (.d (.dat 76)))], [(.normal, [(9, .k (.row 114 false)), (10, .k (.row 28 false))])]⟩),
  (7824, ⟨8585740288, [], [(0, .k (.d (.dat 76)))], [(.normal, [(32, .k (.d (.bool)))])]⟩)]
 loop := asc [(122, ⟨72057594037898752, [], [(0, .k (.d (.dat 76)))], [(9, .k (.row 114 false)), (10, .k (.row 28 false)), (11, .k (.d (.int .i64)))], [((.exit 0), [(9, .k (.row 114 false)), (10, .k (.row 28 false))])], bnd tb (.len (.ld 69 (.fld 72 5 (.slot 6)))) 1⟩)]
 keep := asc []
def K5 (n : Nat) : Row I := ⟨98, [.var 76 (.k (.d (.dat 76))) true, .d (.dat 36), .d (.dat 72), .d (.int .i64)], [.k (.d (.dat 28))], b1h n⟩
theorem b1a (n : Nat) (_ : y4 Go.Proofs.Tryz.prog (Y6 n)) (h_semtypebase_Source_near : y4 Go.Proofs.Tryz.prog (K4 n)) (_ : y4 Go.Proofs.Tryz.prog (Q6 n)) (_ : y4 Go.Proofs.Tryz.prog (K5 n)) : y4 Go.Proofs.Tryz.prog (Y6 (n + 1)) :=
 j8 z7 (y9 (es := [j6 tb (K4 n), j6 tb (a0F n), j6 tb (a1H)]) ⟨z8 z7 h_semtypebase_Source_near, ⟨z8 z7 (a36 n), ⟨z8 z7 a3K, trivial⟩⟩⟩ 3) mixed 21 (fn := Go.Proofs.Tryz.f31) (cd := v8 Go.Proofs.Tryz.f31) (H := (b2j n)) (rl := [.cell 8 28]) Go.Proofs.Tryz.func31 (by kernel_rfl) (by kernel_rfl) (by kernel_rfl) (by kernel_rfl) (by kernel_rfl) (by kernel_rfl) (by kernel_rfl)
end Go.Qx
end
section
namespace Go.Qx
open Go Go.RowKit Go.Sx
set_option maxHeartbeats 1600000
set_option maxRecDepth 100000
theorem b02 (n : Nat) (h_semtypebase_Source_Near : y4 Go.Proofs.Tryz.prog (Y6 n)) (h_semtypebase_Source_near : y4 Go.Proofs.Tryz.prog (K4 n)) (h_semtypebase_Source_nearFunction : y4 Go.Proofs.Tryz.prog (Q6 n)) (h_semtypebase_Source_nearMap : y4 Go.Proofs.Tryz.prog (K5 n)) : y4 Go.Proofs.Tryz.prog (K4 (n + 1)) :=
 j8 z7 (y9 (es := [j6 tb (a1H), j6 tb (w9), j6 tb (a60), j6 tb (a5m), j6 tb (a0L), j6 tb (a6q), j6 tb (a0l), j6 tb (a66), j6 tb (a09), j6 tb (Y6 n), j6 tb (K5 n), j6 tb (Q6 n), j6 tb (K4 n), j6 tb (a3h), j6 tb (a6R), j6 tb (J0 n)]) ⟨z8 z7 a3K, ⟨z8 z7 Z3, ⟨z8 z7 b1f, ⟨z8 z7 a89, ⟨z8 z7 a1V, ⟨z8 z7 a98, ⟨z8 z7 a1f, ⟨z8 z7 b0R, ⟨z8 z7 a15, ⟨z8 z7 h_semtypebase_Source_Near, ⟨z8 z7 h_semtypebase_Source_nearMap, ⟨z8 z7 h_semtypebase_Source_nearFunction, ⟨z8 z7 h_semtypebase_Source_near, ⟨z8 z7 a5G, ⟨z8 z7 b2f, ⟨z8 z7 (b0X n), trivial⟩⟩⟩⟩⟩⟩⟩⟩⟩⟩⟩⟩⟩⟩⟩⟩ 3) mixed 217 (fn := Go.Proofs.Tryz.f55) (cd := v8 Go.Proofs.Tryz.f55) (H := (b2b n)) (rl := [.cell 8 28]) Go.Proofs.Tryz.func55 (by kernel_rfl) (by kernel_rfl) (by kernel_rfl) (by kernel_rfl) (by kernel_rfl) (by kernel_rfl) (by kernel_rfl)
theorem a7Z (n : Nat) (h_semtypebase_Source_Near : y4 Go.Proofs.Tryz.prog (Y6 n)) (_ : y4 Go.Proofs.Tryz.prog (K4 n)) (_ : y4 Go.Proofs.Tryz.prog (Q6 n)) (_ : y4 Go.Proofs.Tryz.prog (K5 n)) : y4 Go.Proofs.Tryz.prog (Q6 (n + 1)) :=
 j8 z7 (y9 (es := [j6 tb (w9), j6 tb (Y6 n), j6 tb (a4n n), j6 tb (a09)]) ⟨z8 z7 Z3, ⟨z8 z7 h_semtypebase_Source_Near, ⟨z8 z7 (a73 n), ⟨z8 z7 a15, trivial⟩⟩⟩⟩ 3) mixed 75 (fn := Go.Proofs.Tryz.f99) (cd := v8 Go.Proofs.Tryz.f99) (H := (a8y n)) (rl := [.cell 8 28]) Go.Proofs.Tryz.func99 (by kernel_rfl) (by kernel_rfl) (by kernel_rfl) (by kernel_rfl) (by kernel_rfl) (by kernel_rfl) (by kernel_rfl)
theorem a9Q (n : Nat) (h_semtypebase_Source_Near : y4 Go.Proofs.Tryz.prog (Y6 n)) (_ : y4 Go.Proofs.Tryz.prog (K4 n)) (_ : y4 Go.Proofs.Tryz.prog (Q6 n)) (_ : y4 Go.Proofs.Tryz.prog (K5 n)) : y4 Go.Proofs.Tryz.prog (K5 (n + 1)) :=
 j8 z7 (y9 (es := [j6 tb (w9), j6 tb (Y6 n), j6 tb (a61), j6 tb (a09)]) ⟨z8 z7 Z3, ⟨z8 z7 h_semtypebase_Source_Near, ⟨z8 z7 b09, ⟨z8 z7 a15, trivial⟩⟩⟩⟩ 3) mixed 89 (fn := Go.Proofs.Tryz.f98) (cd := v8 Go.Proofs.Tryz.f98) (H := (b0i n)) (rl := [.cell 8 28]) Go.Proofs.Tryz.func98 (by kernel_rfl) (by kernel_rfl) (by kernel_rfl) (by kernel_rfl) (by kernel_rfl) (by kernel_rfl) (by kernel_rfl)
theorem a47 : ∀ n : Nat, y4 Go.Proofs.Tryz.prog (Y6 n) /\ y4 Go.Proofs.Tryz.prog (K4 n) /\ y4 Go.Proofs.Tryz.prog (Q6 n) /\ y4 Go.Proofs.Tryz.prog (K5 n)
 | 0 => ⟨Q8 (by kernel_rfl), Q8 (by kernel_rfl), Q8 (by kernel_rfl), Q8 (by kernel_rfl)⟩
 | n + 1 => by
   obtain ⟨h0, h1, h2, h3⟩ := a47 n
   exact ⟨b1a n h0 h1 h2 h3, b02 n h0 h1 h2 h3, a7Z n h0 h1 h2 h3, a9Q n h0 h1 h2 h3⟩
theorem b1r (n : Nat) : y4 Go.Proofs.Tryz.prog (Y6 n) := (a47 n).1
def b6w (_ : Nat) : Hints I where
 tds := fun i => (asc [(12, [[], [0], [], [], [2, 3], [2, 3, 4], [0, 1, 2, 3, 4, 5], [0, 1, 2, 3, 4, 5, 6], [0, 1, 2, 3, 4, 5, 6, 7]]), (19, [[], [0], [], [], [], [], [4, 5], [2, 3, 4, 5, 6], [2, 3, 4, 5, 6, 7], [0, 1, 2, 3, 4, 5, 6, 7, 8], [0, 1, 2, 3, 4, 5, 6, 7, 8, 9], [0, 1, 2, 3, 4, 5, 6, 7, 8, 9, 10]]), (22, [[], [], [], [], [2, 3], [0, 1, 2, 3, 4], [0, 1, 2, 3, 4, 5], [0, 1, 2, 3, 4, 5, 6]]), (23, [[], [], [], [0], [0, 1, 3], [0, 1, 2, 3, 4]])] i).getD []
 spl := fun i => (asc [] i).getD []
 pre := fun i => (asc [] i).getD []
 join := asc [(4093, ⟨19267255250108152471879680, [], [(14, .k (.d (.dat 76))), (15, .lvs [.row 28 false, .d (.bool), .d (.int .i64), .d (.int .i64), .d (.str), .d (.sl 28), .d (.sl 114), .d (.sl 30), .d (.sl 9)])], [(.normal, [])]⟩)]
 loop := asc [(506, ⟨18014397435754496, [], [(7, .k (.d (.dat 76))), (8, .lvs [.row 72 false, .d (.int .i64)])], [(11, .k (.d (.int .i64)))], [((.exit 0), [])], bnd tb (.cst 3) 1⟩),
  (4090, ⟨9444588850551214637056, [8], [(14, .k (.d (.dat 76))), (15, .lvs [.row 28 false, .d (.bool), .d (.int .i64), .d (.int .i64), .d (.str), .row 28 false, .row 114 false, .row 30 false, .row 9 false])], [(16, .k (.d (.int .i64)))], [((.exit 4), [])], bnd tb (.slot 10) 1⟩),
  (129610, ⟨281440616980480, [], [(7, .k (.d (.dat 76))), (12, .lvs [.d (.int .i64), .d (.int .i64), .d (.int .i64), .d (.str), .row 3 false, .row 132 false, .d (.int .i64), .d (.int .i64)])], [(13, .k (.d (.int .i64)))], [((.exit 2), [])], bnd tb (.slot 10) 2⟩)]
 keep := asc []
def a8X (n : Nat) : Row I := ⟨11, [.d (.sl 3), .d (.sl 3)], [.k (.d (.dat 36)), .k (.d (.int .i64)), .k (.d (.dat 30))], a5B n⟩
theorem b5P (n : Nat) : y4 Go.Proofs.Tryz.prog (a8X n) :=
 j8 z7 (y9 (es := [j6 tb (w9), j6 tb (a6i), j6 tb (Y6 n)]) ⟨z8 z7 Z3, ⟨z8 z7 b1l, ⟨z8 z7 (b1r n), trivial⟩⟩⟩ 3) mixed 87 (fn := Go.Proofs.Tryz.f11) (cd := v8 Go.Proofs.Tryz.f11) (H := (b6w n)) (rl := [.cell 4 36, .tmp 5, .cell 6 30]) Go.Proofs.Tryz.func11 (by kernel_rfl) (by kernel_rfl) (by kernel_rfl) (by kernel_rfl) (by kernel_rfl) (by kernel_rfl) (by kernel_rfl)
def b6r : Hints I where
 tds := fun i => (asc [] i).getD []
 spl := fun i => (asc [] i).getD []
 pre := fun i => (asc [] i).getD []
 join := asc []
 loop := asc []
 keep := asc []
def a1m : Row I := ⟨37, [.d (.dat 36), .d (.int .i64)], [.k (.d (.bool))], V3⟩
theorem a2l : y4 Go.Proofs.Tryz.prog (a1m) :=
 j8 z7 (y9 (es := []) trivial 3) mixed 14 (fn := Go.Proofs.Tryz.f37) (cd := v8 Go.Proofs.Tryz.f37) (H := b6r) (rl := [.tmp 4]) Go.Proofs.Tryz.func37 (by kernel_rfl) (by kernel_rfl) (by kernel_rfl) (by kernel_rfl) (by kernel_rfl) (by kernel_rfl) (by kernel_rfl)
def b7i : Hints I where
 tds := fun i => (asc [(4, [[], [], [1], [], [1, 2, 3], [1, 2, 3, 4], [0, 1, 2, 3, 4, 5], [0, 1, 2, 3, 4, 5, 6]]), (47, [[], [], [1], [0, 1, 2], [0, 1, 2, 3], [0, 1, 2, 3, 4], [0, 1, 2, 3, 4, 5], [0, 1, 2, 3, 4, 5, 6], [0, 1, 2, 3, 4, 5, 6, 7], [0, 1, 2, 3, 4, 5, 6, 7, 8], [0, 1, 2, 3, 4, 5, 6, 7, 8, 9], [0, 1, 2, 3, 4, 5, 6, 7, 8, 9, 10], [0, 1, 2, 3, 4, 5, 6, 7, 8, 9, 10, 11], [0, 1, 2, 3, 4, 5, 6, 7, 8, 9, 10, 11, 12], [0, 1, 2, 3, 4, 5, 6, 7, 8, 9, 10, 11, 12, 13], [0, 1, 2, 3, 4, 5, 6, 7, 8, 9, 10, 11, 12, 13, 14], [0, 1, 2, 3, 4, 5, 6, 7, 8, 9, 10, 11, 12, 13, 14, 15], [0, 1, 2, 3, 4, 5, 6, 7, 8, 9, 10, 11, 12, 13, 14], [0, 1, 2, 3, 4, 5, 6, 7, 8, 9, 10, 11, 12, 13, 14, 17], [0, 1, 2, 3, 4, 5, 6, 7, 8, 9, 10, 11, 12, 13, 14, 15, 16, 17, 18], [0, 1, 2, 3, 4, 5, 6, 7, 8, 9, 10, 11, 12, 13, 14, 15, 16, 17, 18, 19], [0, 1, 2, 3, 4, 5, 6, 7, 8, 9, 10, 11, 12, 13, 14, 15, 16, 17, 18, 19, 20], [0, 1, 2, 3, 4, 5, 6, 7, 8, 9, 10, 11, 12, 13, 14], [0, 1, 2, 3, 4, 5, 6, 7, 8, 9, 10, 11, 12, 13, 14, 22], [0, 1, 2, 3, 4, 5, 6, 7, 8, 9, 10, 11, 12, 13, 14, 15, 16, 17, 18, 19, 20, 21, 22, 23], [0, 1, 2, 3, 4, 5, 6, 7, 8, 9, 10, 11, 12, 13, 14, 15, 16, 17, 18, 19, 20, 21, 22, 23, 24], [0, 1, 2, 3, 4, 5, 6, 7, 8, 9, 10, 11, 12, 13, 14, 15, 16, 17, 18, 19, 20, 21, 22, 23, 24, 25], [0, 1, 2, 3, 4, 5, 6, 7, 8, 9, 10, 11, 12, 13, 14, 15, 16, 17, 18, 19, 20, 21, 22, 23, 24, 25, 26]])] i).getD []
 spl := fun i => (asc [] i).getD []
 pre := fun i => (asc [] i).getD []
 join := asc [(2092029, ⟨2706308199418088717232151174730781556736, [], [], [(.normal, [(122, .k (.d (.bool)))])]⟩),
  (535560189, ⟨3568119231764899702645714923623737840956866560, [], [], [(.normal, [(149, .k (.d (.bool)))])]⟩)]
 loop := asc [(26, ⟨67106864, [], [], [(5, .k (.d (.int .i64)))], [((.exit 0), []), (.ret, [(4, .k (.d (.bool)))])], bnd tb (.len (.ld 22 (.fld 72 4 (.slot 3)))) 1⟩),
  (68551704562, ⟨1606938044257528773904631189422958917689486710763136902759952, [], [], [(9, .k (.d (.int .i64)))], [((.exit 3), []), (.ret, [(4, .k (.d (.bool)))])], bnd tb (.len (.ld 69 (.fld 72 5 (.slot 3)))) 1⟩)]
 keep := asc []
def a9v : Row I := ⟨67, [.d (.dat 36), .d (.dat 72)], [.k (.d (.bool))], a6m⟩
theorem b6q : y4 Go.Proofs.Tryz.prog (a9v) :=
 j8 z7 (y9 (es := [j6 tb (a1m), j6 tb (a3g), j6 tb (a3F), j6 tb (a2t), j6 tb (a0M)]) ⟨z8 z7 a2l, ⟨z8 z7 a6c, ⟨z8 z7 a7e, ⟨z8 z7 a4V, ⟨z8 z7 a1U, trivial⟩⟩⟩⟩⟩ 3) mixed 216 (fn := Go.Proofs.Tryz.f67) (cd := v8 Go.Proofs.Tryz.f67) (H := b7i) (rl := [.tmp 4]) Go.Proofs.Tryz.func67 (by kernel_rfl) (by kernel_rfl) (by kernel_rfl) (by kernel_rfl) (by kernel_rfl) (by kernel_rfl) (by kernel_rfl)
def b4H : Hints I where
 tds := fun i => (asc [] i).getD []
 spl := fun i => (asc [] i).getD []
 pre := fun i => (asc [] i).getD []
 join := asc []
 loop := asc []
 keep := asc []
def a77 : Row I := ⟨68, [.d (.dat 72)], [.k (.d (.bool))], a4N⟩
theorem b4p : y4 Go.Proofs.Tryz.prog (a77) :=
 j8 z7 (y9 (es := []) trivial 3) mixed 16 (fn := Go.Proofs.Tryz.f68) (cd := v8 Go.Proofs.Tryz.f68) (H := b4H) (rl := [.tmp 2]) Go.Proofs.Tryz.func68 (by kernel_rfl) (by kernel_rfl) (by kernel_rfl) (by kernel_rfl) (by kernel_rfl) (by kernel_rfl) (by kernel_rfl)
def b3j (n : Nat) : Hints I where
 tds := fun i => (asc [(6, [[], [], [1], [], [1, 2, 3], [1, 2, 3, 4], [0, 1, 2, 3, 4, 5], [0, 1, 2, 3, 4, 5, 6]])] i).getD []
 spl := fun i => (asc [] i).getD []
 pre := fun i => (asc [] i).getD []
 join := asc []
 loop := asc [(58, ⟨1073709068, [], [], [(3, .k (.d (.int .i64)))], [((.exit 0), []), (.ret, [(2, .k (.d (.int .i64)))])], bnd tb (.len (.ld 34 (.fld 36 0 (.slot 1)))) 1⟩),
  (250, ⟨4951760157141521082416628192, [], [], [(4, .k (.row 4 false)), (5, .k (.d (.int .i64)))], [((.exit 2), [(4, .k (.row 4 false))])], bnd tb (.len (.ld 34 (.fld 36 0 (.slot 1)))) 1⟩),
  (506, ⟨10136253041668693690874029146628, [], [], [(4, .k (.row 4 false)), (9, .k (.d (.int .i64)))], [((.exit 8), [(4, .k (.row 4 false))]), (.ret, [(2, .k (.d (.int .i64))), (4, .k (.row 4 false))])], bnd tb (.len (.slot 4)) 1⟩),
  (16018, ⟨4951760157141518900573241792, [], [], [(4, .k (.row 4 false)), (6, .k (.d (.int .i64)))], [((.exit 4), [(4, .k (.row 4 false))])], bnd tb (.len (.ld 34 (.fld 36 0 (.slot 1)))) 1⟩),
  (4100682, ⟨4835703278177041722114432, [], [], [(4, .k (.row 4 false)), (7, .k (.d (.bool))), (8, .k (.d (.int .i64)))], [((.exit 6), [(4, .k (.row 4 false)), (7, .k (.d (.bool)))])], fun _ => some n⟩)]
 keep := asc []
def a1Y (n : Nat) : Row I := ⟨36, [.d (.dat 36)], [.k (.d (.int .i64))], X6 n⟩
theorem a3Z (n : Nat) : y4 Go.Proofs.Tryz.prog (a1Y n) :=
 j8 z7 (y9 (es := [j6 tb (a1m), j6 tb (a9v), j6 tb (a77)]) ⟨z8 z7 a2l, ⟨z8 z7 b6q, ⟨z8 z7 b4p, trivial⟩⟩⟩ 3) mixed 103 (fn := Go.Proofs.Tryz.f36) (cd := v8 Go.Proofs.Tryz.f36) (H := (b3j n)) (rl := [.tmp 2]) Go.Proofs.Tryz.func36 (by kernel_rfl) (by kernel_rfl) (by kernel_rfl) (by kernel_rfl) (by kernel_rfl) (by kernel_rfl) (by kernel_rfl)
def b5n : Hints I where
 tds := fun i => (asc [(1, [[], [0], [0, 1], [], [3], [0, 1, 2, 3, 4], [0, 1, 2, 3, 4, 5]]), (5, [[], [], [], [1, 2], [1, 2, 3], [0, 1, 2, 3, 4], [0, 1, 2, 3, 4, 5]])] i).getD []
 spl := fun i => (asc [] i).getD []
 pre := fun i => (asc [] i).getD []
 join := asc []
 loop := asc [(58, ⟨67100752, [5], [], [(6, .k (.d (.int .i64)))], [((.exit 0), []), (.ret, [(4, .k (.d (.bool)))])], bnd tb (.len (.slot 5)) 1⟩)]
 keep := asc []
def a4X : Row I := ⟨22, [.d (.dat 36), .d (.dat 47)], [.k (.d (.bool))], a2Z⟩
theorem a8s : y4 Go.Proofs.Tryz.prog (a4X) :=
 j8 z7 (y9 (es := [j6 tb (a1m)]) ⟨z8 z7 a2l, trivial⟩ 3) mixed 26 (fn := Go.Proofs.Tryz.f22) (cd := v8 Go.Proofs.Tryz.f22) (H := b5n) (rl := [.tmp 4]) Go.Proofs.Tryz.func22 (by kernel_rfl) (by kernel_rfl) (by kernel_rfl) (by kernel_rfl) (by kernel_rfl) (by kernel_rfl) (by kernel_rfl)
def b3q : Hints I where
 tds := fun i => (asc [(6, [[], [], [0, 1], [0, 1, 2], [], [], [4, 5], [4, 5, 6], [0, 1, 2, 3, 4, 5, 6, 7]])] i).getD []
 spl := fun i => (asc [] i).getD []
 pre := fun i => (asc [] i).getD []
 join := asc []
 loop := asc [(58, ⟨67106864, [], [], [(5, .k (.d (.int .i64)))], [((.exit 0), []), (.ret, [(4, .k (.d (.bool)))])], bnd tb (.len (.slot 0)) 1⟩)]
 keep := asc []
def a7a : Row I := ⟨44, [.d (.sl 3), .d (.sl 3)], [.k (.d (.bool))], a2b⟩
theorem b3n : y4 Go.Proofs.Tryz.prog (a7a) :=
 j8 z7 (y9 (es := []) trivial 3) mixed 26 (fn := Go.Proofs.Tryz.f44) (cd := v8 Go.Proofs.Tryz.f44) (H := b3q) (rl := [.tmp 4]) Go.Proofs.Tryz.func44 (by kernel_rfl) (by kernel_rfl) (by kernel_rfl) (by kernel_rfl) (by kernel_rfl) (by kernel_rfl) (by kernel_rfl)
def b3e : Hints I where
 tds := fun i => (asc [] i).getD []
 spl := fun i => (asc [] i).getD []
 pre := fun i => (asc [] i).getD []
 join := asc []
 loop := asc []
 keep := asc []
def a6T : Row I := ⟨18, [.d (.dat 47), .d (.dat 47)], [.k (.d (.bool))], a0x⟩
theorem b1V : y4 Go.Proofs.Tryz.prog (a6T) :=
 j8 z7 (y9 (es := [j6 tb (a7a)]) ⟨z8 z7 b3n, trivial⟩ 3) mixed 24 (fn := Go.Proofs.Tryz.f18) (cd := v8 Go.Proofs.Tryz.f18) (H := b3e) (rl := [.tmp 4]) Go.Proofs.Tryz.func18 (by kernel_rfl) (by kernel_rfl) (by kernel_rfl) (by kernel_rfl) (by kernel_rfl) (by kernel_rfl) (by kernel_rfl)
def c1P : Hints I where
 tds := fun i => (asc [(1, [[], [0], [0, 1], [], [3], [0, 1, 2, 3, 4], [0, 1, 2, 3, 4, 5], []])] i).getD []
 spl := fun i => (asc [] i).getD []
 pre := fun i => (asc [] i).getD []
 join := asc []
 loop := asc [(26, ⟨268419152, [12], [], [(14, .k (.d (.int .i64)))], [((.exit 0), []), (.ret, [(4, .k (.d (.bool)))])], bnd tb (.slot 13) 1⟩)]
 keep := asc []
def b3D : Row I := ⟨73, [.d (.dat 36), .d (.dat 47)], [.k (.d (.bool))], b0L⟩
theorem c0J : y4 Go.Proofs.Tryz.prog (b3D) :=
 j8 z7 (y9 (es := [j6 tb b5g]) ⟨z8 z7 b96, trivial⟩ 3) mixed 28 (fn := Go.Proofs.Tryz.f73) (cd := v8 Go.Proofs.Tryz.f73) (H := c1P) (rl := [.tmp 4]) Go.Proofs.Tryz.func73 (by kernel_rfl) (by kernel_rfl) (by kernel_rfl) (by kernel_rfl) (by kernel_rfl) (by kernel_rfl) (by kernel_rfl)
def c0k (_ : Nat) : Hints I where
 tds := fun i => (asc [] i).getD []
 spl := fun i => (asc [] i).getD []
 pre := fun i => (asc [] i).getD []
 join := asc []
 loop := asc []
 keep := asc []
def b1N (n : Nat) : Row I := ⟨119, [.d (.int .i64), .var 28 (.k (.d (.dat 28))) false, .var 36 (.k (.d (.dat 36))) false], [.k (.d (.bool))], b1A n⟩
theorem b9k (n : Nat) : y4 Go.Proofs.Tryz.prog (b1N n) :=
 j8 z7 (y9 (es := [j6 tb (V1 n)]) ⟨z8 z7 (b8D n), trivial⟩ 3) mixed 10 (fn := Go.Proofs.Tryz.f119) (cd := v8 Go.Proofs.Tryz.f119) (H := (c0k n)) (rl := [.tmp 4]) Go.Proofs.Tryz.func119 (by kernel_rfl) (by kernel_rfl) (by kernel_rfl) (by kernel_rfl) (by kernel_rfl) (by kernel_rfl) (by kernel_rfl)
def b9D (_ : Nat) : Hints I where
 tds := fun i => (asc [] i).getD []
 spl := fun i => (asc [] i).getD []
 pre := fun i => (asc [] i).getD []
 join := asc []
 loop := asc []
 keep := asc []
def b1H (n : Nat) : Row I := ⟨120, [.d (.int .i64), .var 28 (.k (.d (.dat 28))) false, .var 36 (.k (.d (.dat 36))) false], [.k (.d (.bool))], b1z n⟩
theorem b9r (n : Nat) : y4 Go.Proofs.Tryz.prog (b1H n) :=
 j8 z7 (y9 (es := [j6 tb (V1 n)]) ⟨z8 z7 (b8D n), trivial⟩ 3) mixed 9 (fn := Go.Proofs.Tryz.f120) (cd := v8 Go.Proofs.Tryz.f120) (H := (b9D n)) (rl := [.tmp 4]) Go.Proofs.Tryz.func120 (by kernel_rfl) (by kernel_rfl) (by kernel_rfl) (by kernel_rfl) (by kernel_rfl) (by kernel_rfl) (by kernel_rfl)
def c1M (_ : Nat) : Hints I where
 tds := fun i => (asc [] i).getD []
 spl := fun i => (asc [] i).getD []
 pre := fun i => (asc [] i).getD []
 join := asc []
 loop := asc []
 keep := asc []
def b3P (n : Nat) : Row I := ⟨74, [.d (.dat 28), .d (.dat 36), .d (.sl 3), .d (.sl 3)], [.k (.d (.bool))], b4d n⟩
theorem c0R (n : Nat) : y4 Go.Proofs.Tryz.prog (b3P n) :=
 j8 z7 (y9 (es := [j6 tb (a0k), j6 tb (b1N n), j6 tb (b1H n)]) ⟨z8 z7 a1h, ⟨z8 z7 (b9k n), ⟨z8 z7 (b9r n), trivial⟩⟩⟩ 3) mixed 19 (fn := Go.Proofs.Tryz.f74) (cd := v8 Go.Proofs.Tryz.f74) (H := (c1M n)) (rl := [.tmp 8]) Go.Proofs.Tryz.func74 (by kernel_rfl) (by kernel_rfl) (by kernel_rfl) (by kernel_rfl) (by kernel_rfl) (by kernel_rfl) (by kernel_rfl)
def c0w (_ : Nat) : Hints I where
 tds := fun i => (asc [] i).getD []
 spl := fun i => (asc [] i).getD []
 pre := fun i => (asc [] i).getD []
 join := asc []
 loop := asc []
 keep := asc []
def b2Y (n : Nat) : Row I := ⟨45, [.d (.dat 28), .d (.dat 36), .d (.dat 47)], [.k (.d (.bool))], a4y n⟩
theorem b9U (n : Nat) : y4 Go.Proofs.Tryz.prog (b2Y n) :=
 j8 z7 (y9 (es := [j6 tb (a7s n), j6 tb (a2N n), j6 tb (b3D), j6 tb (b3P n)]) ⟨z8 z7 (b1I n), ⟨z8 z7 (a5p n), ⟨z8 z7 c0J, ⟨z8 z7 (c0R n), trivial⟩⟩⟩⟩ 3) mixed 40 (fn := Go.Proofs.Tryz.f45) (cd := v8 Go.Proofs.Tryz.f45) (H := (c0w n)) (rl := [.tmp 6]) Go.Proofs.Tryz.func45 (by kernel_rfl) (by kernel_rfl) (by kernel_rfl) (by kernel_rfl) (by kernel_rfl) (by kernel_rfl) (by kernel_rfl)
def c0U (_ : Nat) : Hints I where
 tds := fun i => (asc [(6, [[], [], [], [2], [], [2, 3, 4], [2, 3, 4, 5], [0, 1, 2, 3, 4, 5, 6], [0, 1, 2, 3, 4, 5, 6, 7]])] i).getD []
 spl := fun i => (asc [] i).getD []
 pre := fun i => (asc [] i).getD []
 join := asc []
 loop := asc [(58, ⟨2198956147136, [], [], [(26, .k (.d (.int .i64)))], [((.exit 0), []), (.ret, [(6, .k (.d (.bool)))])], bnd tb (.slot 25) 1⟩)]
 keep := asc []
def b2O (n : Nat) : Row I := ⟨19, [.d (.dat 30), .d (.dat 36), .d (.dat 57)], [.k (.d (.bool))], a9r n⟩
theorem b91 (n : Nat) : y4 Go.Proofs.Tryz.prog (b2O n) :=
 j8 z7 (y9 (es := [j6 tb (b2Y n)]) ⟨z8 z7 (b9U n), trivial⟩ 3) mixed 51 (fn := Go.Proofs.Tryz.f19) (cd := v8 Go.Proofs.Tryz.f19) (H := (c0U n)) (rl := [.tmp 6]) Go.Proofs.Tryz.func19 (by kernel_rfl) (by kernel_rfl) (by kernel_rfl) (by kernel_rfl) (by kernel_rfl) (by kernel_rfl) (by kernel_rfl)
def b8r : Hints I where
 tds := fun i => (asc [(4, [[], [0], [], [0, 1, 2], [0, 1, 2, 3], [], [0, 1, 2, 3, 4, 5]])] i).getD []
 spl := fun i => (asc [] i).getD []
 pre := fun i => (asc [] i).getD []
 join := asc []
 loop := asc [(26, ⟨2097136, [], [], [(5, .k (.d (.int .i64)))], [((.exit 0), []), (.ret, [(4, .k (.d (.int .i64)))])], bnd tb (.len (.ld 24 (.fld 28 4 (.slot 2)))) 1⟩)]
 keep := asc []
def a95 : Row I := ⟨130, [.d (.dat 28), .d (.dat 114)], [.k (.d (.int .i64))], a7b⟩
theorem b7o : y4 Go.Proofs.Tryz.prog (a95) :=
 j8 z7 (y9 (es := []) trivial 3) mixed 21 (fn := Go.Proofs.Tryz.f130) (cd := v8 Go.Proofs.Tryz.f130) (H := b8r) (rl := [.tmp 4]) Go.Proofs.Tryz.func130 (by kernel_rfl) (by kernel_rfl) (by kernel_rfl) (by kernel_rfl) (by kernel_rfl) (by kernel_rfl) (by kernel_rfl)
def b6D : Hints I where
 tds := fun i => (asc [(4, [[], [0], [], [0, 1, 2], [0, 1, 2, 3], [0, 1, 2, 3, 4], [], [0, 1, 2, 3, 4, 5, 6]])] i).getD []
 spl := fun i => (asc [] i).getD []
 pre := fun i => (asc [] i).getD []
 join := asc []
 loop := asc [(26, ⟨4194288, [], [], [(5, .k (.d (.int .i64)))], [((.exit 0), []), (.ret, [(4, .k (.d (.int .i64)))])], bnd tb (.len (.ld 69 (.fld 72 5 (.slot 2)))) 1⟩)]
 keep := asc []
def a83 : Row I := ⟨131, [.d (.dat 72), .d (.dat 114)], [.k (.d (.int .i64))], a2F⟩
theorem b50 : y4 Go.Proofs.Tryz.prog (a83) :=
 j8 z7 (y9 (es := []) trivial 3) mixed 22 (fn := Go.Proofs.Tryz.f131) (cd := v8 Go.Proofs.Tryz.f131) (H := b6D) (rl := [.tmp 4]) Go.Proofs.Tryz.func131 (by kernel_rfl) (by kernel_rfl) (by kernel_rfl) (by kernel_rfl) (by kernel_rfl) (by kernel_rfl) (by kernel_rfl)
def b3U (_ : Nat) : Hints I where
 tds := fun i => (asc [(8, [[], [0], [], [], [3], [], [3, 4, 5], [0, 1, 2, 3, 4, 5, 6], [0, 1, 2, 3, 4, 5, 6, 7], [0, 1, 2, 3, 4, 5, 6, 7, 8], [0, 1, 2, 3, 4, 5, 6, 7, 8, 9], [0, 1, 2, 3, 4, 5, 6, 7, 8, 9, 10], [0, 1, 2, 3, 4, 5, 6, 7, 8, 9, 10, 11], [0, 1, 2, 3, 4, 5, 6, 7, 8, 9, 10, 11, 12], [0, 1, 2, 3, 4, 5, 6, 7, 8, 9, 10, 11], [0, 1, 2, 3, 4, 5, 6, 7, 8, 9, 10, 11], [0, 1, 2, 3, 4, 5, 6, 7, 8, 9, 10, 11, 15], [0, 1, 2, 3, 4, 5, 6, 7, 8, 9, 10, 11], [0, 1, 2, 3, 4, 5, 6, 7, 8, 9, 10, 11, 15, 16, 17], [0, 1, 2, 3, 4, 5, 6, 7, 8, 9, 10, 11, 15, 16, 17, 18], [0, 1, 2, 3, 4, 5, 6, 7, 8, 9, 10, 11, 12, 13, 14, 15, 16, 17, 18, 19], [0, 1, 2, 3, 4, 5, 6, 7, 8, 9, 10, 11, 12, 13, 14, 15, 16, 17, 18, 19, 20], [0, 1, 2, 3, 4, 5, 6, 7, 8, 9, 10, 11, 12, 13, 14, 15, 16, 17, 18, 19, 20, 21], [0, 1, 2, 3, 4, 5, 6, 7, 8, 9, 10, 11, 12, 13, 14, 15, 16, 17, 18, 19, 20, 21, 22]])] i).getD []
 spl := fun i => (asc [] i).getD []
 pre := fun i => (asc [] i).getD []
 join := asc []
 loop := asc [(122, ⟨18014398509220672, [], [], [(8, .k (.d (.int .i64)))], [((.exit 0), []), (.ret, [(6, .k (.d (.bool)))])], bnd tb (.len (.ld 25 (.fld 28 5 (.slot 3)))) 1⟩)]
 keep := asc []
def a0d (n : Nat) : Row I := ⟨80, [.d (.dat 28), .d (.dat 36), .d (.dat 72)], [.k (.d (.bool))], a0S n⟩
def b4R (_ : Nat) : Hints I where
 tds := fun i => (asc [(4, [[], [0], [], [0, 1, 2], [0, 1, 2, 3], [0, 1, 2, 3, 4], [0, 1, 2, 3, 4, 5], [0, 1, 2, 3, 4, 5, 6], [0, 1, 2, 3, 4, 5, 6, 7], [0, 1, 2, 3, 4, 5, 6, 7], [0, 1, 2, 3, 4, 5, 6, 7, 9], [0, 1, 2, 3, 4, 5, 6, 7], [0, 1, 2, 3, 4, 5, 6, 7, 9, 10, 11], [0, 1, 2, 3, 4, 5, 6, 7, 9, 10, 11, 12], [0, 1, 2, 3, 4, 5, 6, 7, 9, 10, 11, 12, 13], [0, 1, 2, 3, 4, 5, 6, 7, 8, 9, 10, 11, 12, 13, 14], [0, 1, 2, 3, 4, 5, 6, 7, 8, 9, 10, 11, 12, 13, 14, 15], [0, 1, 2, 3, 4, 5, 6, 7, 8, 9, 10, 11, 12, 13, 14, 15, 16]]), (9, [[], [], [1], [], [1, 2, 3], [1, 2, 3, 4], [0, 1, 2, 3, 4, 5], [0, 1, 2, 3, 4, 5, 6]]), (13, [[], [0], [], [0, 1, 2], [0, 1, 2, 3], [], [], [0, 1, 2, 3, 4, 5, 6], [0, 1, 2, 3, 4, 5, 6, 7]])] i).getD []
 spl := fun i => (asc [] i).getD []
 pre := fun i => (asc [] i).getD []
 join := asc [(3730, ⟨575334852396581888, [], [], [(.normal, [(10, .k (.d (.int .i64)))])]⟩),
  (14925, ⟨145268109580462720000, [], [], [(.normal, [(10, .k (.d (.int .i64)))])]⟩)]
 loop := asc [(26, ⟨68719474880, [], [], [(7, .k (.d (.int .i64)))], [((.exit 0), []), (.ret, [(6, .k (.d (.bool)))])], bnd tb (.len (.ld 69 (.fld 72 5 (.slot 5)))) 1⟩),
  (58, ⟨75557863725845603944256, [], [], [(8, .k (.d (.int .i64)))], [((.exit 2), []), (.ret, [(6, .k (.d (.bool)))])], bnd tb (.len (.ld 24 (.fld 28 4 (.slot 3)))) 1⟩)]
 keep := asc []
def a0p (n : Nat) : Row I := ⟨79, [.d (.dat 28), .d (.dat 36), .d (.dat 72)], [.k (.d (.bool))], a06 n⟩
def b5R (_ : Nat) : Hints I where
 tds := fun i => (asc [(35, [[], [], [], [2], [], [2, 3, 4], [2, 3, 4, 5], [0, 1, 2, 3, 4, 5, 6]]), (42, [[], [], [], [2], [], [2, 3, 4], [2, 3, 4, 5], [0, 1, 2, 3, 4, 5, 6], [0, 1, 2, 3, 4, 5, 6, 7]]), (46, [[], [], [], [2], [2, 3], [2, 3, 4], [0, 1, 2, 3, 4, 5], [0, 1, 2, 3, 4, 5, 6], [0, 1, 2, 3, 4, 5, 6, 7]]), (51, [[], [0], [], [0, 1, 2], [0, 1, 2, 3], [], [5], [0, 1, 2, 3, 4, 5, 6]])] i).getD []
 spl := fun i => (asc [] i).getD []
 pre := fun i => (asc [] i).getD []
 join := asc []
 loop := asc [(506806140914, ⟨365364258960126464239350440319934430733230145856, [], [], [(8, .k (.d (.int .i64)))], [((.exit 1), []), (.ret, [(6, .k (.d (.bool)))])], bnd tb (.len (.ld 22 (.fld 72 4 (.slot 7)))) 1⟩),
  (2027224563698, ⟨95779509802480722744478485512061607693151539203932736, [], [], [(9, .k (.d (.int .i64)))], [((.exit 3), []), (.ret, [(6, .k (.d (.bool)))])], bnd tb (.len (.ld 22 (.fld 72 4 (.slot 7)))) 1⟩),
  (16217796509690, ⟨12855112035213460536787957001890350341026617553047063680255040, [], [], [(10, .k (.d (.int .i64)))], [((.exit 5), []), (.ret, [(6, .k (.d (.bool)))])], bnd tb (.len (.ld 26 (.fld 28 6 (.slot 3)))) 1⟩)]
 keep := asc []
def Y4 (n : Nat) : Row I := ⟨51, [.d (.dat 28), .d (.dat 36), .d (.int .i64)], [.k (.d (.bool))], w4 n⟩
def b4K (_ : Nat) : Hints I where
 tds := fun i => (asc [(6, [[], [], [0, 1], [0, 1, 2], [], [], [], [5, 6], [5, 6, 7], [0, 1, 2, 3, 4, 5, 6, 7, 8], [0, 1, 2, 3, 4, 5, 6, 7, 8, 9]])] i).getD []
 spl := fun i => (asc [] i).getD []
 pre := fun i => (asc [] i).getD []
 join := asc []
 loop := asc [(58, ⟨1073733824, [], [], [(7, .k (.d (.int .i64)))], [((.exit 0), []), (.ret, [(6, .k (.d (.bool)))])], bnd tb (.len (.slot 0)) 1⟩)]
 keep := asc []
def J7 (n : Nat) : Row I := ⟨69, [.d (.sl 28), .d (.dat 36), .d (.sl 3)], [.k (.d (.bool))], a0g n⟩
theorem b2T (n : Nat) (_ : y4 Go.Proofs.Tryz.prog (a0d n)) (_ : y4 Go.Proofs.Tryz.prog (a0p n)) (h_semtyperef7_member : y4 Go.Proofs.Tryz.prog (Y4 n)) (h_semtyperef7_members : y4 Go.Proofs.Tryz.prog (J7 n)) : y4 Go.Proofs.Tryz.prog (a0d (n + 1)) :=
 j8 z7 (y9 (es := [j6 tb (J7 n), j6 tb (Y4 n)]) ⟨z8 z7 h_semtyperef7_members, ⟨z8 z7 h_semtyperef7_member, trivial⟩⟩ 3) mixed 54 (fn := Go.Proofs.Tryz.f80) (cd := v8 Go.Proofs.Tryz.f80) (H := (b3U n)) (rl := [.tmp 6]) Go.Proofs.Tryz.func80 (by kernel_rfl) (by kernel_rfl) (by kernel_rfl) (by kernel_rfl) (by kernel_rfl) (by kernel_rfl) (by kernel_rfl)
theorem b3z (n : Nat) (_ : y4 Go.Proofs.Tryz.prog (a0d n)) (_ : y4 Go.Proofs.Tryz.prog (a0p n)) (h_semtyperef7_member : y4 Go.Proofs.Tryz.prog (Y4 n)) (_ : y4 Go.Proofs.Tryz.prog (J7 n)) : y4 Go.Proofs.Tryz.prog (a0p (n + 1)) :=
 j8 z7 (y9 (es := [j6 tb (a95), j6 tb (a83), j6 tb (Y4 n)]) ⟨z8 z7 b7o, ⟨z8 z7 b50, ⟨z8 z7 h_semtyperef7_member, trivial⟩⟩⟩ 3) mixed 76 (fn := Go.Proofs.Tryz.f79) (cd := v8 Go.Proofs.Tryz.f79) (H := (b4R n)) (rl := [.tmp 6]) Go.Proofs.Tryz.func79 (by kernel_rfl) (by kernel_rfl) (by kernel_rfl) (by kernel_rfl) (by kernel_rfl) (by kernel_rfl) (by kernel_rfl)
theorem b4o (n : Nat) (h_semtyperef7_function : y4 Go.Proofs.Tryz.prog (a0d n)) (h_semtyperef7_mapping : y4 Go.Proofs.Tryz.prog (a0p n)) (h_semtyperef7_member : y4 Go.Proofs.Tryz.prog (Y4 n)) (h_semtyperef7_members : y4 Go.Proofs.Tryz.prog (J7 n)) : y4 Go.Proofs.Tryz.prog (Y4 (n + 1)) :=
 j8 z7 (y9 (es := [j6 tb (J7 n), j6 tb (a0p n), j6 tb (a0d n), j6 tb (Y4 n)]) ⟨z8 z7 h_semtyperef7_members, ⟨z8 z7 h_semtyperef7_mapping, ⟨z8 z7 h_semtyperef7_function, ⟨z8 z7 h_semtyperef7_member, trivial⟩⟩⟩⟩ 3) mixed 203 (fn := Go.Proofs.Tryz.f51) (cd := v8 Go.Proofs.Tryz.f51) (H := (b5R n)) (rl := [.tmp 6]) Go.Proofs.Tryz.func51 (by kernel_rfl) (by kernel_rfl) (by kernel_rfl) (by kernel_rfl) (by kernel_rfl) (by kernel_rfl) (by kernel_rfl)
theorem b3t (n : Nat) (_ : y4 Go.Proofs.Tryz.prog (a0d n)) (_ : y4 Go.Proofs.Tryz.prog (a0p n)) (h_semtyperef7_member : y4 Go.Proofs.Tryz.prog (Y4 n)) (_ : y4 Go.Proofs.Tryz.prog (J7 n)) : y4 Go.Proofs.Tryz.prog (J7 (n + 1)) :=
 j8 z7 (y9 (es := [j6 tb (Y4 n)]) ⟨z8 z7 h_semtyperef7_member, trivial⟩ 3) mixed 30 (fn := Go.Proofs.Tryz.f69) (cd := v8 Go.Proofs.Tryz.f69) (H := (b4K n)) (rl := [.tmp 6]) Go.Proofs.Tryz.func69 (by kernel_rfl) (by kernel_rfl) (by kernel_rfl) (by kernel_rfl) (by kernel_rfl) (by kernel_rfl) (by kernel_rfl)
theorem a3q : ∀ n : Nat, y4 Go.Proofs.Tryz.prog (a0d n) /\ y4 Go.Proofs.Tryz.prog (a0p n) /\ y4 Go.Proofs.Tryz.prog (Y4 n) /\ y4 Go.Proofs.Tryz.prog (J7 n)
 | 0 => ⟨Q8 (by kernel_rfl), Q8 (by kernel_rfl), Q8 (by kernel_rfl), Q8 (by kernel_rfl)⟩
 | n + 1 => by
   obtain ⟨h0, h1, h2, h3⟩ := a3q n
   exact ⟨b2T n h0 h1 h2 h3, b3z n h0 h1 h2 h3, b4o n h0 h1 h2 h3, b3t n h0 h1 h2 h3⟩
theorem a5J (n : Nat) : y4 Go.Proofs.Tryz.prog (Y4 n) := (a3q n).2.2.1
theorem b37 (n : Nat) : y4 Go.Proofs.Tryz.prog (J7 n) := (a3q n).2.2.2
def b5O (_ : Nat) : Hints I where
 tds := fun i => (asc [(4, [[], [], [], [2], [], [2, 3, 4], [2, 3, 4, 5], [0, 1, 2, 3, 4, 5, 6], [0, 1, 2, 3, 4, 5, 6, 7]]), (9, [[], [], [], [2], [], [2, 3, 4], [2, 3, 4, 5], [0, 1, 2, 3, 4, 5, 6]])] i).getD []
 spl := fun i => (asc [] i).getD []
 pre := fun i => (asc [] i).getD []
 join := asc []
 loop := asc [(26, ⟨33554112, [], [], [(7, .k (.d (.int .i64)))], [((.exit 0), []), (.ret, [(6, .k (.d (.bool)))])], bnd tb (.len (.ld 22 (.fld 47 0 (.slot 5)))) 1⟩),
  (58, ⟨1099478073664, [], [], [(8, .k (.d (.int .i64)))], [((.exit 2), []), (.ret, [(6, .k (.d (.bool)))])], bnd tb (.len (.ld 22 (.fld 47 1 (.slot 5)))) 1⟩)]
 keep := asc []
def a8D (n : Nat) : Row I := ⟨40, [.d (.dat 28), .d (.dat 36), .d (.dat 47)], [.k (.d (.bool))], a7D n⟩
theorem b5a (n : Nat) : y4 Go.Proofs.Tryz.prog (a8D n) :=
 j8 z7 (y9 (es := [j6 tb (Y4 n)]) ⟨z8 z7 (a5J n), trivial⟩ 3) mixed 53 (fn := Go.Proofs.Tryz.f40) (cd := v8 Go.Proofs.Tryz.f40) (H := (b5O n)) (rl := [.tmp 6]) Go.Proofs.Tryz.func40 (by kernel_rfl) (by kernel_rfl) (by kernel_rfl) (by kernel_rfl) (by kernel_rfl) (by kernel_rfl) (by kernel_rfl)
def b6b (_ : Nat) : Hints I where
 tds := fun i => (asc [] i).getD []
 spl := fun i => (asc [] i).getD []
 pre := fun i => (asc [] i).getD []
 join := asc []
 loop := asc []
 keep := asc []
def a5j (n : Nat) : Row I := ⟨15, [.d (.dat 28), .d (.dat 36), .d (.dat 47)], [.k (.d (.bool))], a1s n⟩
theorem a80 (n : Nat) : y4 Go.Proofs.Tryz.prog (a5j n) :=
 j8 z7 (y9 (es := [j6 tb (a0F n), j6 tb (a1Y n), j6 tb (a4X), j6 tb (a8D n)]) ⟨z8 z7 (a36 n), ⟨z8 z7 (a3Z n), ⟨z8 z7 a8s, ⟨z8 z7 (b5a n), trivial⟩⟩⟩⟩ 3) mixed 25 (fn := Go.Proofs.Tryz.f15) (cd := v8 Go.Proofs.Tryz.f15) (H := (b6b n)) (rl := [.tmp 6]) Go.Proofs.Tryz.func15 (by kernel_rfl) (by kernel_rfl) (by kernel_rfl) (by kernel_rfl) (by kernel_rfl) (by kernel_rfl) (by kernel_rfl)
def b6I (_ : Nat) : Hints I where
 tds := fun i => (asc [(6, [[], [], [0, 1], [0, 1, 2], [], [], [], [5, 6], [5, 6, 7], [0, 1, 2, 3, 4, 5, 6, 7, 8], [0, 1, 2, 3, 4, 5, 6, 7, 8, 9]])] i).getD []
 spl := fun i => (asc [] i).getD []
 pre := fun i => (asc [] i).getD []
 join := asc []
 loop := asc [(58, ⟨1073733824, [], [], [(7, .k (.d (.int .i64)))], [((.exit 0), []), (.ret, [(6, .k (.d (.bool)))])], bnd tb (.len (.slot 0)) 1⟩)]
 keep := asc []
def a81 (n : Nat) : Row I := ⟨46, [.d (.sl 28), .d (.dat 36), .d (.sl 47)], [.k (.d (.bool))], a8d n⟩
theorem b5F (n : Nat) : y4 Go.Proofs.Tryz.prog (a81 n) :=
 j8 z7 (y9 (es := [j6 tb (a5j n)]) ⟨z8 z7 (a80 n), trivial⟩ 3) mixed 30 (fn := Go.Proofs.Tryz.f46) (cd := v8 Go.Proofs.Tryz.f46) (H := (b6I n)) (rl := [.tmp 6]) Go.Proofs.Tryz.func46 (by kernel_rfl) (by kernel_rfl) (by kernel_rfl) (by kernel_rfl) (by kernel_rfl) (by kernel_rfl) (by kernel_rfl)
def b4Q (_ : Nat) : Hints I where
 tds := fun i => (asc [] i).getD []
 spl := fun i => (asc [] i).getD []
 pre := fun i => (asc [] i).getD []
 join := asc []
 loop := asc []
 keep := asc []
def a79 (n : Nat) : Row I := ⟨20, [.d (.dat 30), .d (.dat 36), .d (.dat 57)], [.k (.d (.bool))], a2V n⟩
theorem b4t (n : Nat) : y4 Go.Proofs.Tryz.prog (a79 n) :=
 j8 z7 (y9 (es := [j6 tb (a81 n), j6 tb (a5j n)]) ⟨z8 z7 (b5F n), ⟨z8 z7 (a80 n), trivial⟩⟩ 3) mixed 32 (fn := Go.Proofs.Tryz.f20) (cd := v8 Go.Proofs.Tryz.f20) (H := (b4Q n)) (rl := [.tmp 6]) Go.Proofs.Tryz.func20 (by kernel_rfl) (by kernel_rfl) (by kernel_rfl) (by kernel_rfl) (by kernel_rfl) (by kernel_rfl) (by kernel_rfl)
def b7a : Hints I where
 tds := fun i => (asc [(7, [[], [], [1], [0, 1, 2], [], [], [4, 5], [0, 1, 2, 3, 4, 5, 6], [0, 1, 2, 3, 4, 5, 6, 7]])] i).getD []
 spl := fun i => (asc [] i).getD []
 pre := fun i => (asc [] i).getD []
 join := asc []
 loop := asc [(28, ⟨2097056, [], [], [(5, .k (.d (.int .i64)))], [((.exit 0), [(5, .k (.d (.int .i64)))])], bnd tb (.len (.slot 0)) 1⟩)]
 keep := asc []
def a9O : Row I := ⟨75, [.d (.sl 3), .d (.int .i64)], [.k (.d (.sl 3))], a6D⟩
theorem b6H : y4 Go.Proofs.Tryz.prog (a9O) :=
 j8 z7 (y9 (es := []) trivial 3) mixed 46 (fn := Go.Proofs.Tryz.f75) (cd := v8 Go.Proofs.Tryz.f75) (H := b7a) (rl := [.tmp 4]) Go.Proofs.Tryz.func75 (by kernel_rfl) (by kernel_rfl) (by kernel_rfl) (by kernel_rfl) (by kernel_rfl) (by kernel_rfl) (by kernel_rfl)
def b7I : Hints I where
 tds := fun i => (asc [] i).getD []
 spl := fun i => (asc [] i).getD []
 pre := fun i => (asc [] i).getD []
 join := asc []
 loop := asc [(58, ⟨131064, [], [], [(3, .k (.d (.sl 3))), (4, .k (.d (.int .i64)))], [((.exit 0), [(3, .k (.d (.sl 3)))])], bnd tb (.len (.slot 0)) 1⟩)]
 keep := asc []
def a9j : Row I := ⟨47, [.d (.sl 3)], [.k (.d (.sl 3))], a4t⟩
theorem b6C : y4 Go.Proofs.Tryz.prog (a9j) :=
 j8 z7 (y9 (es := [j6 tb (a9O)]) ⟨z8 z7 b6H, trivial⟩ 3) mixed 18 (fn := Go.Proofs.Tryz.f47) (cd := v8 Go.Proofs.Tryz.f47) (H := b7I) (rl := [.tmp 2]) Go.Proofs.Tryz.func47 (by kernel_rfl) (by kernel_rfl) (by kernel_rfl) (by kernel_rfl) (by kernel_rfl) (by kernel_rfl) (by kernel_rfl)
def b6d : Hints I where
 tds := fun i => (asc [(1, [[], [0], [0, 1], [], [3], [0, 1, 2, 3, 4], [], [6], [0, 1, 2, 3, 4, 5, 6, 7], [0, 1, 2, 3, 4, 5, 6, 7, 8]])] i).getD []
 spl := fun i => (asc [] i).getD []
 pre := fun i => (asc [] i).getD []
 join := asc []
 loop := asc []
 keep := asc []
def a8q : Row I := ⟨21, [.d (.dat 47)], [.k (.d (.dat 47))], a17⟩
theorem b5l : y4 Go.Proofs.Tryz.prog (a8q) :=
 j8 z7 (y9 (es := [j6 tb (a9j)]) ⟨z8 z7 b6C, trivial⟩ 3) mixed 12 (fn := Go.Proofs.Tryz.f21) (cd := v8 Go.Proofs.Tryz.f21) (H := b6d) (rl := [.cell 2 47]) Go.Proofs.Tryz.func21 (by kernel_rfl) (by kernel_rfl) (by kernel_rfl) (by kernel_rfl) (by kernel_rfl) (by kernel_rfl) (by kernel_rfl)
def b3S (_ : Nat) : Hints I where
 tds := fun i => (asc [] i).getD []
 spl := fun i => (asc [] i).getD []
 pre := fun i => (asc [] i).getD []
 join := asc []
 loop := asc []
 keep := asc []
def a7y (n : Nat) : Row I := ⟨25, [.d (.dat 28), .d (.dat 36), .d (.int .i64)], [.k (.d (.bool))], a30 n⟩
theorem b3y (n : Nat) : y4 Go.Proofs.Tryz.prog (a7y n) :=
 j8 z7 (y9 (es := [j6 tb (a0F n), j6 tb (a1Y n), j6 tb (a1m), j6 tb (Y4 n)]) ⟨z8 z7 (a36 n), ⟨z8 z7 (a3Z n), ⟨z8 z7 a2l, ⟨z8 z7 (a5J n), trivial⟩⟩⟩⟩ 3) mixed 25 (fn := Go.Proofs.Tryz.f25) (cd := v8 Go.Proofs.Tryz.f25) (H := (b3S n)) (rl := [.tmp 6]) Go.Proofs.Tryz.func25 (by kernel_rfl) (by kernel_rfl) (by kernel_rfl) (by kernel_rfl) (by kernel_rfl) (by kernel_rfl) (by kernel_rfl)
def b7y (_ : Nat) : Hints I where
 tds := fun i => (asc [(3, [[], [0], [], [], [], [3, 4], [0, 1, 2, 3, 4, 5], [0, 1, 2, 3, 4, 5, 6]]), (5, [[], [0], [0, 1], [0, 1, 2], [0, 1, 2, 3], [0, 1, 2, 3, 4], [0, 1, 2, 3], [0, 1, 2, 3], [0, 1, 2, 3], [0, 1, 2, 3, 7, 8], [0, 1, 2, 3, 7, 8, 9], [0, 1, 2, 3, 4, 5, 6, 7, 8, 9, 10], [0, 1, 2, 3, 4, 5, 6, 7, 8, 9, 10, 11], [0, 1, 2, 3, 4, 5, 6, 7, 8, 9, 10, 11, 12]])] i).getD []
 spl := fun i => (asc [] i).getD []
 pre := fun i => (asc [] i).getD []
 join := asc []
 loop := asc []
 keep := asc []
def a9p (n : Nat) : Row I := ⟨38, [.d (.dat 30), .d (.dat 36), .d (.int .i64)], [.k (.d (.bool))], a6A n⟩
theorem b6p (n : Nat) : y4 Go.Proofs.Tryz.prog (a9p n) :=
 j8 z7 (y9 (es := [j6 tb (J7 n), j6 tb (Y4 n)]) ⟨z8 z7 (b37 n), ⟨z8 z7 (a5J n), trivial⟩⟩ 3) mixed 39 (fn := Go.Proofs.Tryz.f38) (cd := v8 Go.Proofs.Tryz.f38) (H := (b7y n)) (rl := [.tmp 6]) Go.Proofs.Tryz.func38 (by kernel_rfl) (by kernel_rfl) (by kernel_rfl) (by kernel_rfl) (by kernel_rfl) (by kernel_rfl) (by kernel_rfl)
def b4D (_ : Nat) : Hints I where
 tds := fun i => (asc [(14, [[], [], [], [1, 2], [1, 2, 3], [0, 1, 2, 3, 4], [0, 1, 2, 3, 4, 5], [0, 1, 2, 3, 4, 5, 6], [0, 1, 2, 3, 4, 5, 6, 7], [0, 1, 2, 3, 4, 5, 6, 7, 8], [0, 1, 2, 3, 4, 5, 6, 7], [0, 1, 2, 3, 4, 5, 6, 7], [0, 1, 2, 3, 4, 5, 6, 7, 10, 11], [0, 1, 2, 3, 4, 5, 6, 7, 10, 11, 12], [0, 1, 2, 3, 4, 5, 6, 7, 8, 9, 10, 11, 12, 13], [0, 1, 2, 3, 4, 5, 6, 7, 8, 9, 10, 11, 12, 13, 14], [0, 1, 2, 3, 4, 5, 6, 7, 8, 9, 10, 11, 12, 13, 14, 15], [0, 1, 2, 3, 4, 5, 6, 7, 8, 9, 10, 11, 12, 13, 14, 15, 16], [0, 1, 2, 3, 4, 5, 6, 7, 8, 9, 10, 11, 12, 13, 14, 15, 16, 17], [0, 1, 2, 3, 4, 5, 6, 7, 8, 9, 10, 11, 12, 13, 14, 15, 16, 17, 18], [0, 1, 2, 3, 4, 5, 6, 7, 8, 9, 10, 11, 12, 13, 14, 15, 16, 17, 18, 19], [0, 1, 2, 3, 4, 5, 6, 7, 8, 9, 10, 11, 12, 13, 14, 15, 16, 17, 18, 19, 20], [0, 1, 2, 3, 4, 5, 6, 7, 8, 9, 10, 11, 12, 13, 14, 15, 16, 17, 18, 19], [0, 1, 2, 3, 4, 5, 6, 7, 8, 9, 10, 11, 12, 13, 14, 15, 16, 17, 18, 19], [0, 1, 2, 3, 4, 5, 6, 7, 8, 9, 10, 11, 12, 13, 14, 15, 16, 17, 18, 19, 22, 23], [0, 1, 2, 3, 4, 5, 6, 7, 8, 9, 10, 11, 12, 13, 14, 15, 16, 17, 18, 19, 22, 23, 24], [0, 1, 2, 3, 4, 5, 6, 7, 8, 9, 10, 11, 12, 13, 14, 15, 16, 17, 18, 19, 20, 21, 22, 23, 24, 25], [0, 1, 2, 3, 4, 5, 6, 7, 8, 9, 10, 11, 12, 13, 14, 15, 16, 17, 18, 19, 20, 21, 22, 23, 24, 25, 26], [0, 1, 2, 3, 4, 5, 6, 7, 8, 9, 10, 11, 12, 13, 14, 15, 16, 17, 18, 19, 20, 21, 22, 23, 24, 25, 26, 27], [0, 1, 2, 3, 4, 5, 6, 7, 8, 9, 10, 11, 12, 13, 14, 15, 16, 17, 18, 19, 20, 21, 22, 23, 24, 25, 26, 27, 28], [0, 1, 2, 3, 4, 5, 6, 7, 8, 9, 10, 11, 12, 13, 14, 15, 16, 17, 18, 19], [0, 1, 2, 3, 4, 5, 6, 7, 8, 9, 10, 11, 12, 13, 14, 15, 16, 17, 18, 19, 30], [0, 1, 2, 3, 4, 5, 6, 7, 8, 9, 10, 11, 12, 13, 14, 15, 16, 17, 18, 19, 30, 31], [0, 1, 2, 3, 4, 5, 6, 7, 8, 9, 10, 11, 12, 13, 14, 15, 16, 17, 18, 19, 30, 31, 32], [0, 1, 2, 3, 4, 5, 6, 7, 8, 9, 10, 11, 12, 13, 14, 15, 16, 17, 18, 19, 20, 21, 22, 23, 24, 25, 26, 27, 28, 29, 30, 31, 32, 33], [0, 1, 2, 3, 4, 5, 6, 7, 8, 9, 10, 11, 12, 13, 14, 15, 16, 17, 18, 19, 20, 21, 22, 23, 24, 25, 26, 27, 28, 29, 30, 31, 32, 33, 34], [0, 1, 2, 3, 4, 5, 6, 7, 8, 9, 10, 11, 12, 13, 14, 15, 16, 17, 18, 19, 20, 21, 22, 23, 24, 25, 26, 27, 28, 29, 30, 31, 32, 33, 34, 35], [0, 1, 2, 3, 4, 5, 6, 7, 8, 9, 10, 11, 12, 13, 14, 15, 16, 17, 18, 19, 20, 21, 22, 23, 24, 25, 26, 27, 28, 29, 30, 31, 32, 33, 34, 35, 36], [0, 1, 2, 3, 4, 5, 6, 7, 8, 9, 10, 11, 12, 13, 14, 15, 16, 17, 18, 19, 20, 21, 22, 23, 24, 25, 26, 27, 28, 29, 30, 31, 32, 33, 34, 35, 36], [0, 1, 2, 3, 4, 5, 6, 7, 8, 9, 10, 11, 12, 13, 14, 15, 16, 17, 18, 19, 20, 21, 22, 23, 24, 25, 26, 27, 28, 29, 30, 31, 32, 33, 34, 35, 36], [0, 1, 2, 3, 4, 5, 6, 7, 8, 9, 10, 11, 12, 13, 14, 15, 16, 17, 18, 19, 20, 21, 22, 23, 24, 25, 26, 27, 28, 29, 30, 31, 32, 33, 34, 35, 36], [0, 1, 2, 3, 4, 5, 6, 7, 8, 9, 10, 11, 12, 13, 14, 15, 16, 17, 18, 19, 20, 21, 22, 23, 24, 25, 26, 27, 28, 29, 30, 31, 32, 33, 34, 35, 36, 39, 40], [0, 1, 2, 3, 4, 5, 6, 7, 8, 9, 10, 11, 12, 13, 14, 15, 16, 17, 18, 19, 20, 21, 22, 23, 24, 25, 26, 27, 28, 29, 30, 31, 32, 33, 34, 35, 36, 39, 40, 41], [0, 1, 2, 3, 4, 5, 6, 7, 8, 9, 10, 11, 12, 13, 14, 15, 16, 17, 18, 19, 20, 21, 22, 23, 24, 25, 26, 27, 28, 29, 30, 31, 32, 33, 34, 35, 36, 37, 38, 39, 40, 41, 42], [0, 1, 2, 3, 4, 5, 6, 7, 8, 9, 10, 11, 12, 13, 14, 15, 16, 17, 18, 19, 20, 21, 22, 23, 24, 25, 26, 27, 28, 29, 30, 31, 32, 33, 34, 35, 36, 37, 38, 39, 40, 41, 42, 43], [0, 1, 2, 3, 4, 5, 6, 7, 8, 9, 10, 11, 12, 13, 14, 15, 16, 17, 18, 19, 20, 21, 22, 23, 24, 25, 26, 27, 28, 29, 30, 31, 32, 33, 34, 35, 36, 37, 38, 39, 40, 41, 42, 43, 44]])] i).getD []
 spl := fun i => (asc [] i).getD []
 pre := fun i => (asc [] i).getD []
 join := asc [(29, ⟨2031744, [], [], [(.normal, [(7, .k (.row 28 false))])]⟩)]
 loop := asc [(250, ⟨549739036992, [7], [], [(8, .k (.d (.int .i64)))], [((.exit 0), []), (.ret, [(6, .k (.d (.bool)))])], bnd tb (.len (.slot 7)) 1⟩),
  (506, ⟨2475880078570760000042435136, [], [], [(9, .k (.d (.int .i64)))], [((.exit 2), []), (.ret, [(6, .k (.d (.bool)))])], bnd tb (.len (.slot 2)) 1⟩)]
 keep := asc []
def a75 (n : Nat) : Row I := ⟨13, [.d (.dat 30), .d (.dat 36), .d (.sl 3)], [.k (.d (.bool))], a2U n⟩
theorem b4C (n : Nat) : y4 Go.Proofs.Tryz.prog (a75 n) :=
 j8 z7 (y9 (es := [j6 tb (a1Y n), j6 tb (a7y n), j6 tb (a1m), j6 tb (a9p n)]) ⟨z8 z7 (a3Z n), ⟨z8 z7 (b3y n), ⟨z8 z7 a2l, ⟨z8 z7 (b6p n), trivial⟩⟩⟩⟩ 3) mixed 91 (fn := Go.Proofs.Tryz.f13) (cd := v8 Go.Proofs.Tryz.f13) (H := (b4D n)) (rl := [.tmp 6]) Go.Proofs.Tryz.func13 (by kernel_rfl) (by kernel_rfl) (by kernel_rfl) (by kernel_rfl) (by kernel_rfl) (by kernel_rfl) (by kernel_rfl)
def b2c (_ : Nat) : Hints I where
 tds := fun i => (asc [(13, [[], [0], [0, 1], [], [3], [3, 4], [0, 1, 2, 3, 4, 5], [0, 1, 2, 3, 4, 5, 6], [0, 1, 2, 3, 4, 5, 6, 7], [0, 1, 2, 3, 4, 5, 6, 7, 8], [0, 1, 2, 3, 4, 5, 6, 7, 8, 9], [0, 1, 2, 3, 4, 5, 6, 7, 8, 9, 10], [0, 1, 2, 3, 4, 5, 6, 7, 8, 9, 10, 11], [0, 1, 2, 3, 4, 5, 6, 7, 8, 9, 10], [0, 1, 2, 3, 4, 5, 6, 7, 8, 9, 10, 11, 12, 13], [0, 1, 2, 3, 4, 5, 6, 7, 8, 9, 10, 11, 12, 13, 14], [0, 1, 2, 3, 4, 5, 6, 7, 8, 9, 10, 11, 12, 13, 14, 15], [0, 1, 2, 3, 4, 5, 6, 7, 8, 9, 10, 11, 12, 13, 14, 15, 16], [0, 1, 2, 3, 4, 5, 6, 7, 8, 9, 10, 11, 12, 13, 14, 15, 16, 17], [0, 1, 2, 3, 4, 5, 6, 7, 8, 9, 10, 11, 12, 13, 14, 15, 16, 17, 18], [0, 1, 2, 3, 4, 5, 6, 7, 8, 9, 10, 11, 12, 13, 14, 15, 16, 17, 18], [0, 1, 2, 3, 4, 5, 6, 7, 8, 9, 10, 11, 12, 13, 14, 15, 16, 17, 18], [0, 1, 2, 3, 4, 5, 6, 7, 8, 9, 10, 11, 12, 13, 14, 15, 16, 17, 18, 19, 20, 21], [0, 1, 2, 3, 4, 5, 6, 7, 8, 9, 10, 11, 12, 13, 14, 15, 16, 17, 18], [0, 1, 2, 3, 4, 5, 6, 7, 8, 9, 10, 11, 12, 13, 14, 15, 16, 17, 18], [0, 1, 2, 3, 4, 5, 6, 7, 8, 9, 10, 11, 12, 13, 14, 15, 16, 17, 18], [0, 1, 2, 3, 4, 5, 6, 7, 8, 9, 10, 11, 12, 13, 14, 15, 16, 17, 18, 19, 20, 21, 22, 23, 24, 25], [0, 1, 2, 3, 4, 5, 6, 7, 8, 9, 10, 11, 12, 13, 14, 15, 16, 17, 18, 19, 20, 21, 22, 23, 24, 25, 26], [0, 1, 2, 3, 4, 5, 6, 7, 8, 9, 10, 11, 12, 13, 14, 15, 16, 17, 18, 19, 20, 21, 22, 23, 24, 25, 26, 27]]), (21, [[], [], [1], [0, 1, 2], [0, 1, 2, 3], [0, 1, 2, 3, 4], [0, 1, 2, 3, 4, 5], [0, 1, 2, 3, 4, 5], [0, 1, 2, 3, 4, 5, 6, 7], [0, 1, 2, 3, 4, 5, 6, 7, 8], [0, 1, 2, 3, 4, 5, 6, 7, 8, 9]])] i).getD []
 spl := fun i => (asc [(24, [141])] i).getD []
 pre := fun i => (asc [] i).getD []
 join := asc [(133844261, ⟨321922405229159312968890772411645952, [], [(17, .k (.d (.dat 47)))], [(.normal, [])]⟩)]
 loop := asc [(2042, ⟨87112285931760246646622746581028055539776, [11], [], [(13, .k (.d (.bool))), (14, .k (.d (.int .i64)))], [((.exit 0), [(13, .k (.d (.bool)))]), (.ret, [(6, .k (.d (.bool)))])], bnd tb (.len (.slot 11)) 1⟩),
  (1045658, ⟨680564733208051626812634514115185016896, [], [], [(16, .k (.d (.int .i64)))], [((.exit 2), []), (.ret, [(6, .k (.d (.bool)))])], bnd tb (.len (.ld 55 (.fld 57 0 (.slot 15)))) 2⟩)]
 keep := asc []
def b0U (n : Nat) : Row I := ⟨6, [.d (.sl 3), .d (.sl 3), .d (.int .i64)], [.k (.d (.bool))], a2O n⟩
theorem b1m (n : Nat) : y4 Go.Proofs.Tryz.prog (b0U n) :=
 j8 z7 (y9 (es := [j6 tb (a8m), j6 tb (a8o n), j6 tb (a8X n), j6 tb (a9P n), j6 tb (a6T), j6 tb (b2O n), j6 tb (a79 n), j6 tb (a8q), j6 tb (a4X), j6 tb (a75 n)]) ⟨z8 z7 b4Z, ⟨z8 z7 (b5j n), ⟨z8 z7 (b5P n), ⟨z8 z7 (b5h n), ⟨z8 z7 b1V, ⟨z8 z7 (b91 n), ⟨z8 z7 (b4t n), ⟨z8 z7 b5l, ⟨z8 z7 a8s, ⟨z8 z7 (b4C n), trivial⟩⟩⟩⟩⟩⟩⟩⟩⟩⟩ 3) mixed 154 (fn := Go.Proofs.Tryz.f6) (cd := v8 Go.Proofs.Tryz.f6) (H := (b2c n)) (rl := [.tmp 6]) Go.Proofs.Tryz.func6 (by kernel_rfl) (by kernel_rfl) (by kernel_rfl) (by kernel_rfl) (by kernel_rfl) (by kernel_rfl) (by kernel_rfl)
end Go.Qx
end
section
namespace Go.Pl
open Go Go.RowKit Go.Sx Go.Qx
def b7u (_ : Int) : Nat := 1
def c3s (l : List Int) : Nat := (l.map b7u).sum + 1
end Go.Pl
end
section
namespace Go.Pl
open Go Go.RowKit Go.Sx Go.Qx Go.Proofs.YtdipagkcdpcnbaaGreat
section
variable {H : Type} {enc : TypeId × Value -> H} {w : World} {base : Nat} {spare : Nat -> Bool} {held : Bool}
theorem c9x {n : Nat} {cs : List Value} {x : DataW H × List MemPlace} (h : DataW.trod enc Go.Proofs.Tryz.prog w base spare held n 3 cs = some x) : ∃ d : Int, (rpK .i64).cells (b0b w) d cs /\ b7u d <= Rows.uptoBulk x.1 := by
 obtain ⟨k, e0, rfl, _⟩ := DataW.trod_int Go.Proofs.Tryz.underlying3 h
 exact ⟨k, e0, by simp [b7u, Rows.uptoBulk]⟩
end
end Go.Pl
end
