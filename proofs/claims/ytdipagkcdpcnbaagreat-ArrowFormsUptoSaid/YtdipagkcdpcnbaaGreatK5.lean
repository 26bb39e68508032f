/- Part 5. -/
import Derived.Test.YtdipagkcdpcnbaaGreatK2
import Derived.Test.YtdipagkcdpcnbaaGreatK4
import Derived.OpenShut
section
namespace Go.Qx
open Go Go.RowKit Go.Sx
set_option maxHeartbeats 1600000
set_option maxRecDepth 100000
def c4e : Row I := ⟨210, [.d (.str), .d (.str)], [.k (.d (.int .i64))], c3w⟩
theorem c9w : y4 Go.Proofs.Tryz.prog c4e := c9A Go.Proofs.Tryz.func210 (by kernel_rfl) rfl (by kernel_rfl) (by kernel_rfl)
def b43 : Row I := ⟨41, [.d (.sl 3)], [.k (.row 3 false)], a2Z 8⟩
theorem b9M : y4 Go.Proofs.Tryz.prog b43 := c2J z7 mixed Go.Proofs.Tryz.func41 (by kernel_rfl) (by kernel_rfl) (by kernel_rfl) Go.Proofs.Tryz.underlying22 rfl (by kernel_rfl) (fun _ => by kernel_rfl)
def c4a : Rio I := ⟨151, 3, [], [], c0A⟩
theorem c9n : c4Y Go.Proofs.Tryz.prog c4a := c5W (I := I) (E := 3) Go.Proofs.Tryz.lay151 151 (by kernel_rfl) (fun x => x) Iff.rfl ⟨_, _, Go.Proofs.Tryz.func151, rfl, by kernel_rfl⟩
def c31 : Row I := ⟨158, [.d (.sl 28)], [.k (.row 28 false)], a2Z 128⟩
theorem c91 : y4 Go.Proofs.Tryz.prog c31 := c2J z7 mixed Go.Proofs.Tryz.func158 (by kernel_rfl) (by kernel_rfl) (by kernel_rfl) Go.Proofs.Tryz.underlying23 rfl (by kernel_rfl) (fun _ => by kernel_rfl)
def b5X : Hints I where
 tds := fun i => (asc [] i).getD []
 spl := fun i => (asc [] i).getD []
 pre := fun i => (asc [] i).getD []
 join := asc []
 loop := asc [(26, ⟨65532, [], [], [(3, .k (.d (.int .i64)))], [((.exit 0), []), (.ret, [(2, .k (.d (.bool)))])], bnd tb (.len (.slot 0)) 1⟩)]
 keep := asc []
def a8y : Row I := ⟨8, [.d (.sl 22)], [.k (.d (.bool))], a43⟩
theorem b4Q : y4 Go.Proofs.Tryz.prog (a8y) :=
 j8 z7 (y9 (es := []) trivial 3) mixed 16 (fn := Go.Proofs.Tryz.f8) (cd := v8 Go.Proofs.Tryz.f8) (H := b5X) (rl := [.tmp 2]) Go.Proofs.Tryz.func8 (by kernel_rfl) (by kernel_rfl) (by kernel_rfl) (by kernel_rfl) (by kernel_rfl) (by kernel_rfl) (by kernel_rfl)
def b8q : Hints I where
 tds := fun i => (asc [] i).getD []
 spl := fun i => (asc [] i).getD []
 pre := fun i => (asc [] i).getD []
 join := asc []
 loop := asc []
 keep := asc []
def a05 : Row I := ⟨28, [], [.k (.d (.dat 28))], a0c⟩
theorem a18 : y4 Go.Proofs.Tryz.prog (a05) :=
 j8 z7 (y9 (es := []) trivial 3) mixed 2 (fn := Go.Proofs.Tryz.f28) (cd := v8 Go.Proofs.Tryz.f28) (H := b8q) (rl := [.cell 0 28]) Go.Proofs.Tryz.func28 (by kernel_rfl) (by kernel_rfl) (by kernel_rfl) (by kernel_rfl) (by kernel_rfl) (by kernel_rfl) (by kernel_rfl)
def b5A : Hints I where
 tds := fun i => (asc [] i).getD []
 spl := fun i => (asc [] i).getD []
 pre := fun i => (asc [] i).getD []
 join := asc [(29, ⟨16776824, [], [], [(.normal, [(3, .k (.d (.bool))), (4, .k (.d (.bool))), (5, .k (.d (.bool))), (6, .k (.d (.bool)))])]⟩),
  (941, ⟨26624, [], [], [(.normal, [(11, .k (.d (.bool)))])]⟩),
  (3773, ⟨4096000, [], [], [(.normal, [(15, .k (.d (.bool)))])]⟩)]
 loop := asc []
 keep := asc []
def a8A : Row I := ⟨57, [.d (.dat 72)], [.k (.d (.bool))], a42⟩
theorem b4P : y4 Go.Proofs.Tryz.prog (a8A) :=
 j8 z7 (y9 (es := []) trivial 3) mixed 67 (fn := Go.Proofs.Tryz.f57) (cd := v8 Go.Proofs.Tryz.f57) (H := b5A) (rl := [.tmp 2]) Go.Proofs.Tryz.func57 (by kernel_rfl) (by kernel_rfl) (by kernel_rfl) (by kernel_rfl) (by kernel_rfl) (by kernel_rfl) (by kernel_rfl)
def c0L : Hints I where
 tds := fun i => (asc [] i).getD []
 spl := fun i => (asc [] i).getD []
 pre := fun i => (asc [] i).getD []
 join := asc []
 loop := asc [(58, ⟨34351349952, [], [], [(7, .k (.d (.int .i64)))], [((.exit 0), []), (.ret, [(6, .k (.d (.bool)))])], bnd tb (.len (.slot 0)) 1⟩)]
 keep := asc []
def a8R : Row I := ⟨139, [.d (.str), .fn [.int .u8] [.k (.d (.bool))], .fn [.int .u8] [.k (.d (.bool))]], [.k (.d (.bool))], a7y⟩
theorem b3C : y4 Go.Proofs.Tryz.prog (a8R) :=
 j8 z7 (y9 (es := []) trivial 3) mixed 35 (fn := Go.Proofs.Tryz.f139) (cd := v8 Go.Proofs.Tryz.f139) (H := c0L) (rl := [.tmp 6]) Go.Proofs.Tryz.func139 (by kernel_rfl) (by kernel_rfl) (by kernel_rfl) (by kernel_rfl) (by kernel_rfl) (by kernel_rfl) (by kernel_rfl)
def b92 : Hints I where
 tds := fun i => (asc [] i).getD []
 spl := fun i => (asc [] i).getD []
 pre := fun i => (asc [] i).getD []
 join := asc []
 loop := asc []
 keep := asc []
def a5A : Row I := ⟨140, [.d (.int .u8)], [.k (.d (.bool))], a41⟩
theorem a8L : y4 Go.Proofs.Tryz.prog (a5A) :=
 j8 z7 (y9 (es := []) trivial 3) mixed 9 (fn := Go.Proofs.Tryz.f140) (cd := v8 Go.Proofs.Tryz.f140) (H := b92) (rl := [.tmp 2]) Go.Proofs.Tryz.func140 (by kernel_rfl) (by kernel_rfl) (by kernel_rfl) (by kernel_rfl) (by kernel_rfl) (by kernel_rfl) (by kernel_rfl)
def b9w : Hints I where
 tds := fun i => (asc [] i).getD []
 spl := fun i => (asc [] i).getD []
 pre := fun i => (asc [] i).getD []
 join := asc []
 loop := asc []
 keep := asc []
def a8f : Row I := ⟨142, [.d (.int .u8)], [.k (.d (.bool))], a6N⟩
theorem b3j : y4 Go.Proofs.Tryz.prog (a8f) :=
 j8 z7 (y9 (es := []) trivial 3) mixed 9 (fn := Go.Proofs.Tryz.f142) (cd := v8 Go.Proofs.Tryz.f142) (H := b9w) (rl := [.tmp 2]) Go.Proofs.Tryz.func142 (by kernel_rfl) (by kernel_rfl) (by kernel_rfl) (by kernel_rfl) (by kernel_rfl) (by kernel_rfl) (by kernel_rfl)
def b82 : Hints I where
 tds := fun i => (asc [] i).getD []
 spl := fun i => (asc [] i).getD []
 pre := fun i => (asc [] i).getD []
 join := asc []
 loop := asc []
 keep := asc []
def b08 : Row I := ⟨141, [.d (.int .u8)], [.k (.d (.bool))], b0D⟩
theorem b8p : y4 Go.Proofs.Tryz.prog (b08) :=
 j8 z7 (y9 (es := [j6 tb (a5A), j6 tb (a8f)]) ⟨z8 z7 a8L, ⟨z8 z7 b3j, trivial⟩⟩ 3) mixed 13 (fn := Go.Proofs.Tryz.f141) (cd := v8 Go.Proofs.Tryz.f141) (H := b82) (rl := [.tmp 2]) Go.Proofs.Tryz.func141 (by kernel_rfl) (by kernel_rfl) (by kernel_rfl) (by kernel_rfl) (by kernel_rfl) (by kernel_rfl) (by kernel_rfl)
def c0G : Hints I where
 tds := fun i => (asc [] i).getD []
 spl := fun i => (asc [] i).getD []
 pre := fun i => (asc [] i).getD []
 join := asc []
 loop := asc []
 keep := asc []
def a6A : Row I := ⟨103, [.d (.str)], [.k (.d (.bool))], a5L⟩
theorem a9P : y4 Go.Proofs.Tryz.prog (a6A) :=
 j8 z7 (y9 (es := [j6 tb (a8R), j6 tb (a5A), j6 tb (b08)]) ⟨z8 z7 b3C, ⟨z8 z7 a8L, ⟨z8 z7 b8p, trivial⟩⟩⟩ 3) mixed 5 (fn := Go.Proofs.Tryz.f103) (cd := v8 Go.Proofs.Tryz.f103) (H := c0G) (rl := [.tmp 2]) Go.Proofs.Tryz.func103 (by kernel_rfl) (by kernel_rfl) (by kernel_rfl) (by kernel_rfl) (by kernel_rfl) (by kernel_rfl) (by kernel_rfl)
def c0o : Hints I where
 tds := fun i => (asc [] i).getD []
 spl := fun i => (asc [] i).getD []
 pre := fun i => (asc [] i).getD []
 join := asc []
 loop := asc []
 keep := asc []
def a8d : Row I := ⟨143, [.d (.int .u8)], [.k (.d (.bool))], a6L⟩
theorem b2G : y4 Go.Proofs.Tryz.prog (a8d) :=
 j8 z7 (y9 (es := []) trivial 3) mixed 9 (fn := Go.Proofs.Tryz.f143) (cd := v8 Go.Proofs.Tryz.f143) (H := c0o) (rl := [.tmp 2]) Go.Proofs.Tryz.func143 (by kernel_rfl) (by kernel_rfl) (by kernel_rfl) (by kernel_rfl) (by kernel_rfl) (by kernel_rfl) (by kernel_rfl)
def b6k : Hints I where
 tds := fun i => (asc [] i).getD []
 spl := fun i => (asc [] i).getD []
 pre := fun i => (asc [] i).getD []
 join := asc []
 loop := asc []
 keep := asc []
def a8q : Row I := ⟨144, [.d (.int .u8)], [.k (.d (.bool))], a7s⟩
theorem b4R : y4 Go.Proofs.Tryz.prog (a8q) :=
 j8 z7 (y9 (es := [j6 tb (a5A), j6 tb (a8d), j6 tb (a8f)]) ⟨z8 z7 a8L, ⟨z8 z7 b2G, ⟨z8 z7 b3j, trivial⟩⟩⟩ 3) mixed 17 (fn := Go.Proofs.Tryz.f144) (cd := v8 Go.Proofs.Tryz.f144) (H := b6k) (rl := [.tmp 2]) Go.Proofs.Tryz.func144 (by kernel_rfl) (by kernel_rfl) (by kernel_rfl) (by kernel_rfl) (by kernel_rfl) (by kernel_rfl) (by kernel_rfl)
def b64 : Hints I where
 tds := fun i => (asc [] i).getD []
 spl := fun i => (asc [] i).getD []
 pre := fun i => (asc [] i).getD []
 join := asc []
 loop := asc []
 keep := asc []
def a6m : Row I := ⟨104, [.d (.str)], [.k (.d (.bool))], a3b⟩
theorem a97 : y4 Go.Proofs.Tryz.prog (a6m) :=
 j8 z7 (y9 (es := [j6 tb (a8R), j6 tb (a8d), j6 tb (a8q)]) ⟨z8 z7 b3C, ⟨z8 z7 b2G, ⟨z8 z7 b4R, trivial⟩⟩⟩ 3) mixed 5 (fn := Go.Proofs.Tryz.f104) (cd := v8 Go.Proofs.Tryz.f104) (H := b64) (rl := [.tmp 2]) Go.Proofs.Tryz.func104 (by kernel_rfl) (by kernel_rfl) (by kernel_rfl) (by kernel_rfl) (by kernel_rfl) (by kernel_rfl) (by kernel_rfl)
def b8Y : Hints I where
 tds := fun i => (asc [] i).getD []
 spl := fun i => (asc [] i).getD []
 pre := fun i => (asc [] i).getD []
 join := asc []
 loop := asc []
 keep := asc []
def a7x : Row I := ⟨145, [.d (.dat 114)], [.k (.d (.bool))], a4h⟩
theorem b1G : y4 Go.Proofs.Tryz.prog (a7x) :=
 j8 z7 (y9 (es := [j6 tb (a6A)]) ⟨z8 z7 a9P, trivial⟩ 3) mixed 16 (fn := Go.Proofs.Tryz.f145) (cd := v8 Go.Proofs.Tryz.f145) (H := b8Y) (rl := [.tmp 2]) Go.Proofs.Tryz.func145 (by kernel_rfl) (by kernel_rfl) (by kernel_rfl) (by kernel_rfl) (by kernel_rfl) (by kernel_rfl) (by kernel_rfl)
def b9I : Hints I where
 tds := fun i => (asc [] i).getD []
 spl := fun i => (asc [] i).getD []
 pre := fun i => (asc [] i).getD []
 join := asc []
 loop := asc []
 keep := asc []
def b1L : Row I := ⟨193, [.d (.int .i64)], [.k (.d (.bool))], a8I⟩
theorem b8Z : y4 Go.Proofs.Tryz.prog (b1L) :=
 j8 z7 (y9 (es := []) trivial 3) mixed 6 (fn := Go.Proofs.Tryz.f193) (cd := v8 Go.Proofs.Tryz.f193) (H := b9I) (rl := [.tmp 2]) Go.Proofs.Tryz.func193 (by kernel_rfl) (by kernel_rfl) (by kernel_rfl) (by kernel_rfl) (by kernel_rfl) (by kernel_rfl) (by kernel_rfl)
def b8B : Hints I where
 tds := fun i => (asc [] i).getD []
 spl := fun i => (asc [] i).getD []
 pre := fun i => (asc [] i).getD []
 join := asc []
 loop := asc []
 keep := asc []
def a09 : Row I := ⟨169, [.d (.int .i64), .d (.int .i64)], [.k (.d (.int .i64))], a0K⟩
theorem a19 : y4 Go.Proofs.Tryz.prog (a09) :=
 j8 z7 (y9 (es := [j6 tb (b1L)]) ⟨z8 z7 b8Z, trivial⟩ 3) mixed 20 (fn := Go.Proofs.Tryz.f169) (cd := v8 Go.Proofs.Tryz.f169) (H := b8B) (rl := [.tmp 4]) Go.Proofs.Tryz.func169 (by kernel_rfl) (by kernel_rfl) (by kernel_rfl) (by kernel_rfl) (by kernel_rfl) (by kernel_rfl) (by kernel_rfl)
def a8N : Hints I where
 tds := fun i => (asc [] i).getD []
 spl := fun i => (asc [] i).getD []
 pre := fun i => (asc [] i).getD []
 join := asc []
 loop := asc []
 keep := asc []
def a3S : Row I := ⟨194, [.d (.str), .d (.str)], [.k (.d (.int .i64))], a2l⟩
theorem a8s : y4 Go.Proofs.Tryz.prog (a3S) :=
 j8 z7 (y9 (es := [j6 tb c4e]) ⟨z8 z7 c9w, trivial⟩ 3) mixed 8 (fn := Go.Proofs.Tryz.f194) (cd := v8 Go.Proofs.Tryz.f194) (H := a8N) (rl := [.tmp 4]) Go.Proofs.Tryz.func194 (by kernel_rfl) (by kernel_rfl) (by kernel_rfl) (by kernel_rfl) (by kernel_rfl) (by kernel_rfl) (by kernel_rfl)
def b8n : Hints I where
 tds := fun i => (asc [] i).getD []
 spl := fun i => (asc [] i).getD []
 pre := fun i => (asc [] i).getD []
 join := asc []
 loop := asc []
 keep := asc []
def a4D : Row I := ⟨170, [.d (.str), .d (.str)], [.k (.d (.int .i64))], a0t⟩
theorem a7l : y4 Go.Proofs.Tryz.prog (a4D) :=
 j8 z7 (y9 (es := [j6 tb (a3S)]) ⟨z8 z7 a8s, trivial⟩ 3) mixed 8 (fn := Go.Proofs.Tryz.f170) (cd := v8 Go.Proofs.Tryz.f170) (H := b8n) (rl := [.tmp 4]) Go.Proofs.Tryz.func170 (by kernel_rfl) (by kernel_rfl) (by kernel_rfl) (by kernel_rfl) (by kernel_rfl) (by kernel_rfl) (by kernel_rfl)
def b6q : Hints I where
 tds := fun i => (asc [] i).getD []
 spl := fun i => (asc [] i).getD []
 pre := fun i => (asc [] i).getD []
 join := asc []
 loop := asc []
 keep := asc []
def a3A : Row I := ⟨146, [.d (.dat 114), .d (.dat 114)], [.k (.d (.int .i64))], a0j⟩
theorem a6z : y4 Go.Proofs.Tryz.prog (a3A) :=
 j8 z7 (y9 (es := [j6 tb (a09), j6 tb (a4D)]) ⟨z8 z7 a19, ⟨z8 z7 a7l, trivial⟩⟩ 3) mixed 19 (fn := Go.Proofs.Tryz.f146) (cd := v8 Go.Proofs.Tryz.f146) (H := b6q) (rl := [.tmp 4]) Go.Proofs.Tryz.func146 (by kernel_rfl) (by kernel_rfl) (by kernel_rfl) (by kernel_rfl) (by kernel_rfl) (by kernel_rfl) (by kernel_rfl)
def b4a : Hints I where
 tds := fun i => (asc [(4, [[], [0], [0, 1], [0, 1, 2], [0, 1, 2, 3], [0, 1, 2, 3, 4], [0, 1, 2, 3, 4, 5], [0, 1, 2, 3, 4, 5, 6], [0, 1, 2, 3, 4, 5, 6, 7], [0, 1, 2, 3, 4, 5, 6, 7], [0, 1, 2, 3, 4, 5, 6, 7, 9], [0, 1, 2, 3, 4, 5, 6, 7, 8, 9, 10], [0, 1, 2, 3, 4, 5, 6, 7, 8, 9, 10, 11], [0, 1, 2, 3, 4, 5, 6, 7, 8, 9, 10, 11, 12], [0, 1, 2, 3, 4, 5, 6, 7], [0, 1, 2, 3, 4, 5, 6, 7, 14], [0, 1, 2, 3, 4, 5, 6, 7, 8, 9, 10, 11, 12, 13, 14, 15], [0, 1, 2, 3, 4, 5, 6, 7, 8, 9, 10, 11, 12, 13, 14, 15, 16], [0, 1, 2, 3, 4, 5, 6, 7, 8, 9, 10, 11, 12, 13, 14, 15, 16, 17], [0, 1, 2, 3, 4, 5, 6, 7, 8, 9, 10, 11, 12, 13, 14, 15, 16, 17, 18]])] i).getD []
 spl := fun i => (asc [] i).getD []
 pre := fun i => (asc [] i).getD []
 join := asc []
 loop := asc [(26, ⟨8589934492, [], [], [(7, .k (.d (.int .i64)))], [((.exit 0), []), (.ret, [(2, .k (.d (.bool)))])], bnd tb (.slot 6) 1⟩)]
 keep := asc []
def a7k : Row I := ⟨105, [.d (.sl 132)], [.k (.d (.bool))], a3W⟩
theorem b3w : y4 Go.Proofs.Tryz.prog (a7k) :=
 j8 z7 (y9 (es := [j6 tb (a7x), j6 tb (a3A)]) ⟨z8 z7 b1G, ⟨z8 z7 a6z, trivial⟩⟩ 3) mixed 33 (fn := Go.Proofs.Tryz.f105) (cd := v8 Go.Proofs.Tryz.f105) (H := b4a) (rl := [.tmp 2]) Go.Proofs.Tryz.func105 (by kernel_rfl) (by kernel_rfl) (by kernel_rfl) (by kernel_rfl) (by kernel_rfl) (by kernel_rfl) (by kernel_rfl)
def b5v : Hints I where
 tds := fun i => (asc [] i).getD []
 spl := fun i => (asc [] i).getD []
 pre := fun i => (asc [] i).getD []
 join := asc [(105, ⟨16288, [], [], [(.normal, [(5, .k (.d (.bool)))])]⟩),
  (28311549, ⟨368934881474191032320, [], [], [(.normal, [(66, .k (.d (.bool)))])]⟩)]
 loop := asc []
 keep := asc []
def a8w : Row I := ⟨58, [.d (.dat 72)], [.k (.d (.bool))], a5b⟩
theorem b5p : y4 Go.Proofs.Tryz.prog (a8w) :=
 j8 z7 (y9 (es := [j6 tb (a6A), j6 tb (a6m), j6 tb (a7k)]) ⟨z8 z7 a9P, ⟨z8 z7 a97, ⟨z8 z7 b3w, trivial⟩⟩⟩ 3) mixed 79 (fn := Go.Proofs.Tryz.f58) (cd := v8 Go.Proofs.Tryz.f58) (H := b5v) (rl := [.tmp 2]) Go.Proofs.Tryz.func58 (by kernel_rfl) (by kernel_rfl) (by kernel_rfl) (by kernel_rfl) (by kernel_rfl) (by kernel_rfl) (by kernel_rfl)
def b9f : Hints I where
 tds := fun i => (asc [] i).getD []
 spl := fun i => (asc [] i).getD []
 pre := fun i => (asc [] i).getD []
 join := asc []
 loop := asc [(58, ⟨4190248, [], [], [(3, .k (.row 3 false)), (12, .k (.d (.int .i64)))], [((.exit 0), [(3, .k (.row 3 false))])], bnd tb (.slot 11) 1⟩)]
 keep := asc []
def b0T : Row I := ⟨59, [.d (.dat 72)], [.k (.row 3 false)], a7Z⟩
theorem b8r : y4 Go.Proofs.Tryz.prog (b0T) :=
 j8 z7 (y9 (es := [j6 tb b43]) ⟨z8 z7 b9M, trivial⟩ 3) mixed 35 (fn := Go.Proofs.Tryz.f59) (cd := v8 Go.Proofs.Tryz.f59) (H := b9f) (rl := [.tmp 2]) Go.Proofs.Tryz.func59 (by kernel_rfl) (by kernel_rfl) (by kernel_rfl) (by kernel_rfl) (by kernel_rfl) (by kernel_rfl) (by kernel_rfl)
def b5V : Hints I where
 tds := fun i => (asc [] i).getD []
 spl := fun i => (asc [] i).getD []
 pre := fun i => (asc [] i).getD []
 join := asc []
 loop := asc []
 keep := asc []
def a8G : Row I := ⟨107, [.d (.int .i64)], [.k (.d (.bool))], a44⟩
theorem b5b : y4 Go.Proofs.Tryz.prog (a8G) :=
 j8 z7 (y9 (es := []) trivial 3) mixed 13 (fn := Go.Proofs.Tryz.f107) (cd := v8 Go.Proofs.Tryz.f107) (H := b5V) (rl := [.tmp 2]) Go.Proofs.Tryz.func107 (by kernel_rfl) (by kernel_rfl) (by kernel_rfl) (by kernel_rfl) (by kernel_rfl) (by kernel_rfl) (by kernel_rfl)
def b2Q (n : Nat) : Hints I where
 tds := fun i => (asc [] i).getD []
 spl := fun i => (asc [] i).getD []
 pre := fun i => (asc [] i).getD []
 join := asc []
 loop := asc [(122, ⟨140462610448544, [], [(1, .k (.row 3 false))], [(38, .k (.d (.int .i64)))], [((.exit 0), []), (.ret, [(5, .k (.d (.bool)))])], bnd tb (.slot 37) 1⟩)]
 keep := asc []
def a0U (n : Nat) : Row I := ⟨106, [.d (.int .i64), .var 22 (.k (.row 3 false)) true, .var 36 (.k (.d (.dat 36))) false, .var 101 (.k (.d .any)) false], [.k (.d (.bool))], Q5 n⟩
theorem b1C (n : Nat) (h_typeexpr_contractive_1 : b2z Go.Proofs.Tryz.prog (a0U n) (b9B 101 106 3 [1, 2, 3])) : b2z Go.Proofs.Tryz.prog (a0U (n + 1)) (b9B 101 106 3 [1, 2, 3]) :=
 c8n z7 (y9 (es := [j6 tb (a8G), c5c tb (a0U n) (b7Z 101 106 3 [1, 2, 3])]) ⟨z8 z7 b5b, ⟨b80 z7 h_typeexpr_contractive_1 (fun _ _ _ _ _ _ _ _ _ hO h hc hv => b9z hO h hc hv), trivial⟩⟩ 3) mixed 50 (s0 := fun a => c79 101 106 3 3 [1, 2, 3] (b4o tb 50 [.d (.int .i64), .var 22 (.k (.row 3 false)) true, .var 36 (.k (.d (.dat 36))) false, .var 101 (.k (.d .any)) false] a)) (fn := Go.Proofs.Tryz.f106) (cd := v8 Go.Proofs.Tryz.f106) (H := (b2Q n)) (rl := [.tmp 5]) (fun X c σ a vs F h hv hC => c7W rfl rfl rfl h hv hC) Go.Proofs.Tryz.func106 (by kernel_rfl) (by kernel_rfl) (by kernel_rfl) (by kernel_rfl) (by kernel_rfl) (by kernel_rfl) (by kernel_rfl)
theorem a7e : ∀ n : Nat, b2z Go.Proofs.Tryz.prog (a0U n) (b9B 101 106 3 [1, 2, 3])
 | 0 => c6h (Q9 (by kernel_rfl))
 | n + 1 => b1C n (a7e n)
def b4f (n : Nat) : Hints I where
 tds := fun i => (asc [] i).getD []
 spl := fun i => (asc [] i).getD []
 pre := fun i => (asc [] i).getD []
 join := asc []
 loop := asc [(250, ⟨4177956, [], [(3, .k (.row 3 false))], [(14, .k (.d (.int .i64)))], [((.exit 0), []), (.ret, [(2, .k (.d (.bool)))])], bnd tb (.slot 13) 1⟩)]
 keep := asc []
def a7q (n : Nat) : Row I := ⟨60, [.d (.dat 36)], [.k (.d (.bool))], a3Y n⟩
theorem b3u (n : Nat) : y4 Go.Proofs.Tryz.prog (a7q n) :=
 j8 z7 (y9 (es := [c5c tb (a0U n) (b7Z 101 106 3 [1, 2, 3])]) ⟨b80 z7 (a7e n) (fun _ _ _ _ _ _ _ _ _ hO h hc hv => b9z hO h hc hv), trivial⟩ 3) mixed 22 (fn := Go.Proofs.Tryz.f60) (cd := v8 Go.Proofs.Tryz.f60) (H := (b4f n)) (rl := [.tmp 2]) Go.Proofs.Tryz.func60 (by kernel_rfl) (by kernel_rfl) (by kernel_rfl) (by kernel_rfl) (by kernel_rfl) (by kernel_rfl) (by kernel_rfl)
def b5e (n : Nat) : Hints I where
 tds := fun i => (asc [] i).getD []
 spl := fun i => (asc [] i).getD []
 pre := fun i => (asc [] i).getD []
 join := asc []
 loop := asc [(58, ⟨2251799811588180, [], [], [(21, .k (.d (.int .i64)))], [((.exit 0), []), (.ret, [(2, .k (.d (.int .i64)))])], bnd tb (.slot 20) 1⟩),
  (29902, ⟨1125831187365956, [34], [], [(36, .k (.d (.int .i64)))], [((.exit 2), []), (.ret, [(2, .k (.d (.int .i64)))])], bnd tb (.slot 35) 1⟩)]
 keep := asc []
def a2R (n : Nat) : Row I := ⟨32, [.d (.dat 36)], [.k (.d (.int .i64))], a0g n⟩
theorem a5j (n : Nat) : y4 Go.Proofs.Tryz.prog (a2R n) :=
 j8 z7 (y9 (es := [j6 tb (a8A), j6 tb (a8w), j6 tb (b0T), j6 tb (a7q n)]) ⟨z8 z7 b4P, ⟨z8 z7 b5p, ⟨z8 z7 b8r, ⟨z8 z7 (b3u n), trivial⟩⟩⟩⟩ 3) mixed 54 (fn := Go.Proofs.Tryz.f32) (cd := v8 Go.Proofs.Tryz.f32) (H := (b5e n)) (rl := [.tmp 2]) Go.Proofs.Tryz.func32 (by kernel_rfl) (by kernel_rfl) (by kernel_rfl) (by kernel_rfl) (by kernel_rfl) (by kernel_rfl) (by kernel_rfl)
def b1q : Hints I where
 tds := fun i => (asc [] i).getD []
 spl := fun i => (asc [] i).getD []
 pre := fun i => (asc [] i).getD []
 join := asc []
 loop := asc [(26, ⟨524080, [], [], [(8, .k (.d (.int .i64)))], [((.exit 0), []), (.ret, [(4, .k (.d (.int .i64)))])], bnd tb (.slot 7) 1⟩)]
 keep := asc []
def a5Y : Row I := ⟨108, [.d (.sl 3), .fn [.int .i64] [.k (.d (.bool))]], [.k (.d (.int .i64))], a4o⟩
theorem b04 : y4 Go.Proofs.Tryz.prog (a5Y) :=
 j8 z7 (y9 (es := []) trivial 3) mixed 19 (fn := Go.Proofs.Tryz.f108) (cd := v8 Go.Proofs.Tryz.f108) (H := b1q) (rl := [.tmp 4]) Go.Proofs.Tryz.func108 (by kernel_rfl) (by kernel_rfl) (by kernel_rfl) (by kernel_rfl) (by kernel_rfl) (by kernel_rfl) (by kernel_rfl)
def a91 : Hints I where
 tds := fun i => (asc [] i).getD []
 spl := fun i => (asc [] i).getD []
 pre := fun i => (asc [] i).getD []
 join := asc []
 loop := asc []
 keep := asc []
def a0k : Row I := ⟨61, [.d (.sl 3), .fn [.int .i64] [.k (.d (.bool))]], [.k (.d (.bool))], Y6⟩
theorem a1i : y4 Go.Proofs.Tryz.prog (a0k) :=
 j8 z7 (y9 (es := [j6 tb (a5Y)]) ⟨z8 z7 b04, trivial⟩ 3) mixed 9 (fn := Go.Proofs.Tryz.f61) (cd := v8 Go.Proofs.Tryz.f61) (H := a91) (rl := [.tmp 4]) Go.Proofs.Tryz.func61 (by kernel_rfl) (by kernel_rfl) (by kernel_rfl) (by kernel_rfl) (by kernel_rfl) (by kernel_rfl) (by kernel_rfl)
def b6x : Hints I where
 tds := fun i => (asc [] i).getD []
 spl := fun i => (asc [] i).getD []
 pre := fun i => (asc [] i).getD []
 join := asc []
 loop := asc []
 keep := asc []
def a85 : Row I := ⟨62, [.d (.int .i64), .var 36 (.k (.d (.dat 36))) false], [.k (.d (.bool))], a8c⟩
theorem b6e : y4 Go.Proofs.Tryz.prog (a85) :=
 j8 z7 (y9 (es := []) trivial 3) mixed 22 (fn := Go.Proofs.Tryz.f62) (cd := v8 Go.Proofs.Tryz.f62) (H := b6x) (rl := [.tmp 3]) Go.Proofs.Tryz.func62 (by kernel_rfl) (by kernel_rfl) (by kernel_rfl) (by kernel_rfl) (by kernel_rfl) (by kernel_rfl) (by kernel_rfl)
def b8o : Hints I where
 tds := fun i => (asc [] i).getD []
 spl := fun i => (asc [] i).getD []
 pre := fun i => (asc [] i).getD []
 join := asc []
 loop := asc []
 keep := asc []
def a6Z : Row I := ⟨33, [.d (.dat 36), .d (.sl 3)], [.k (.d (.bool))], a5c⟩
theorem b05 : y4 Go.Proofs.Tryz.prog (a6Z) :=
 j8 z7 (y9 (es := [j6 tb (a0k), j6 tb (a85)]) ⟨z8 z7 a1i, ⟨z8 z7 b6e, trivial⟩⟩ 3) mixed 9 (fn := Go.Proofs.Tryz.f33) (cd := v8 Go.Proofs.Tryz.f33) (H := b8o) (rl := [.tmp 4]) Go.Proofs.Tryz.func33 (by kernel_rfl) (by kernel_rfl) (by kernel_rfl) (by kernel_rfl) (by kernel_rfl) (by kernel_rfl) (by kernel_rfl)
def b99 : Hints I where
 tds := fun i => (asc [] i).getD []
 spl := fun i => (asc [] i).getD []
 pre := fun i => (asc [] i).getD []
 join := asc []
 loop := asc [(58, ⟨68719473504, [], [], [(5, .k (.row 22 false)), (12, .k (.d (.int .i64)))], [((.exit 0), [(5, .k (.row 22 false))])], bnd tb (.slot 11) 1⟩),
  (29898, ⟨17179804480, [14], [], [(6, .k (.row 22 false)), (16, .k (.d (.int .i64)))], [((.exit 2), [(6, .k (.row 22 false))])], bnd tb (.slot 15) 1⟩),
  (7653990, ⟨8588886592, [], [], [(6, .k (.row 22 false)), (9, .k (.d (.int .i64)))], [((.exit 4), [(6, .k (.row 22 false))])], bnd tb (.slot 0) 2⟩)]
 keep := asc []
def b1I : Row I := ⟨42, [.d (.int .i64), .d (.int .i64)], [.k (.row 22 false)], a8K⟩
theorem b9a : y4 Go.Proofs.Tryz.prog (b1I) :=
 j8 z7 (y9 (es := [j6 tb b43]) ⟨z8 z7 b9M, trivial⟩ 3) mixed 37 (fn := Go.Proofs.Tryz.f42) (cd := v8 Go.Proofs.Tryz.f42) (H := b99) (rl := [.tmp 4]) Go.Proofs.Tryz.func42 (by kernel_rfl) (by kernel_rfl) (by kernel_rfl) (by kernel_rfl) (by kernel_rfl) (by kernel_rfl) (by kernel_rfl)
def b4r : Hints I where
 tds := fun i => (asc [] i).getD []
 spl := fun i => (asc [] i).getD []
 pre := fun i => (asc [] i).getD []
 join := asc []
 loop := asc [(26, ⟨524080, [], [], [(8, .k (.d (.int .i64)))], [((.exit 0), []), (.ret, [(4, .k (.d (.int .i64)))])], bnd tb (.slot 7) 1⟩)]
 keep := asc []
def a7G : Row I := ⟨150, [.d (.sl 3), .d (.int .i64)], [.k (.d (.int .i64))], a6x⟩
theorem b3y : y4 Go.Proofs.Tryz.prog (a7G) :=
 j8 z7 (y9 (es := []) trivial 3) mixed 19 (fn := Go.Proofs.Tryz.f150) (cd := v8 Go.Proofs.Tryz.f150) (H := b4r) (rl := [.tmp 4]) Go.Proofs.Tryz.func150 (by kernel_rfl) (by kernel_rfl) (by kernel_rfl) (by kernel_rfl) (by kernel_rfl) (by kernel_rfl) (by kernel_rfl)
def b2k : Hints I where
 tds := fun i => (asc [] i).getD []
 spl := fun i => (asc [] i).getD []
 pre := fun i => (asc [] i).getD []
 join := asc []
 loop := asc []
 keep := asc []
def a6l : Row I := ⟨117, [.d (.sl 3), .d (.int .i64)], [.k (.d (.bool))], a2Q⟩
theorem b1i : y4 Go.Proofs.Tryz.prog (a6l) :=
 j8 z7 (y9 (es := [j6 tb (a7G)]) ⟨z8 z7 b3y, trivial⟩ 3) mixed 9 (fn := Go.Proofs.Tryz.f117) (cd := v8 Go.Proofs.Tryz.f117) (H := b2k) (rl := [.tmp 4]) Go.Proofs.Tryz.func117 (by kernel_rfl) (by kernel_rfl) (by kernel_rfl) (by kernel_rfl) (by kernel_rfl) (by kernel_rfl) (by kernel_rfl)
def b8t : Hints I where
 tds := fun i => (asc [] i).getD []
 spl := fun i => (asc [] i).getD []
 pre := fun i => (asc [] i).getD []
 join := asc []
 loop := asc []
 keep := asc []
def a96 : Row I := ⟨116, [.d (.int .i64), .var 22 (.k (.d (.sl 3))) false], [.k (.d (.bool))], a9J⟩
theorem b7F : y4 Go.Proofs.Tryz.prog (a96) :=
 j8 z7 (y9 (es := [j6 tb (a6l)]) ⟨z8 z7 b1i, trivial⟩ 3) mixed 7 (fn := Go.Proofs.Tryz.f116) (cd := v8 Go.Proofs.Tryz.f116) (H := b8t) (rl := [.tmp 3]) Go.Proofs.Tryz.func116 (by kernel_rfl) (by kernel_rfl) (by kernel_rfl) (by kernel_rfl) (by kernel_rfl) (by kernel_rfl) (by kernel_rfl)
def b9U : Hints I where
 tds := fun i => (asc [] i).getD []
 spl := fun i => (asc [] i).getD []
 pre := fun i => (asc [] i).getD []
 join := asc []
 loop := asc []
 keep := asc []
def b1H : Row I := ⟨71, [.d (.sl 3), .d (.sl 3)], [.k (.d (.bool))], a6S⟩
theorem b9t : y4 Go.Proofs.Tryz.prog (b1H) :=
 j8 z7 (y9 (es := [j6 tb (a0k), j6 tb (a96)]) ⟨z8 z7 a1i, ⟨z8 z7 b7F, trivial⟩⟩ 3) mixed 8 (fn := Go.Proofs.Tryz.f71) (cd := v8 Go.Proofs.Tryz.f71) (H := b9U) (rl := [.tmp 4]) Go.Proofs.Tryz.func71 (by kernel_rfl) (by kernel_rfl) (by kernel_rfl) (by kernel_rfl) (by kernel_rfl) (by kernel_rfl) (by kernel_rfl)
def b2O : Hints I where
 tds := fun i => (asc [(6, [[], [], [0, 1], [0, 1, 2], [], [], [5], [4, 5, 6], [4, 5, 6, 7], [0, 1, 2, 3, 4, 5, 6, 7, 8]]), (11, [[], [], [0, 1], [0, 1, 2], [], [], [5], [4, 5, 6], [4, 5, 6, 7], [0, 1, 2, 3, 4, 5, 6, 7, 8]])] i).getD []
 spl := fun i => (asc [] i).getD []
 pre := fun i => (asc [] i).getD []
 join := asc []
 loop := asc [(58, ⟨1152921504606846012, [], [], [(0, .k (.row 3 false)), (3, .k (.d (.int .i64)))], [((.exit 0), [(0, .k (.row 3 false))]), (.ret, [(0, .k (.row 3 true)), (2, .k (.d (.sl 3)))])], bnd tb (.len (.slot 0)) 1⟩)]
 keep := asc [(59690, ⟨18014397972611112, 0, 3, [(3, .k (.d (.int .i64))), (5, .k (.d (.int .i64)))], [((.exit 2), [(3, .k (.d (.int .i64)))])], bnd tb (.len (.slot 4)) 1⟩)]
def a6V : Row I := ⟨153, [.row 3 false], [.k (.d (.sl 3))], a3j⟩
theorem b2h : y4 Go.Proofs.Tryz.prog (a6V) :=
 j8 z7 (y9 (es := []) trivial 3) mixed 61 (fn := Go.Proofs.Tryz.f153) (cd := v8 Go.Proofs.Tryz.f153) (H := b2O) (rl := [.tmp 2]) Go.Proofs.Tryz.func153 (by kernel_rfl) (by kernel_rfl) (by kernel_rfl) (by kernel_rfl) (by kernel_rfl) (by kernel_rfl) (by kernel_rfl)
def b4F : Hints I where
 tds := fun i => (asc [] i).getD []
 spl := fun i => (asc [] i).getD []
 pre := fun i => (asc [] i).getD []
 join := asc []
 loop := asc []
 keep := asc []
def a74 : Row I := ⟨152, [.d (.sl 3)], [.k (.row 3 true)], a67⟩
theorem b4v : y4 Go.Proofs.Tryz.prog (a74) :=
 j8 z7 (y9 (es := []) trivial 3) mixed 9 (fn := Go.Proofs.Tryz.f152) (cd := v8 Go.Proofs.Tryz.f152) (H := b4F) (rl := [.tmp 2]) Go.Proofs.Tryz.func152 (by kernel_rfl) (by kernel_rfl) (by kernel_rfl) (by kernel_rfl) (by kernel_rfl) (by kernel_rfl) (by kernel_rfl)
def c1K : Hints I where
 tds := fun i => (asc [] i).getD []
 spl := fun i => (asc [] i).getD []
 pre := fun i => (asc [] i).getD []
 join := asc []
 loop := asc []
 keep := asc []
def b3R : Row I := ⟨118, [.d (.sl 3)], [.k (.row 3 true)], a8j⟩
theorem c0H : y4 Go.Proofs.Tryz.prog (b3R) :=
 j8 z7 (y9 (es := [j6 tb b43, c9Y tb c4a, j6 tb (a6V), j6 tb (a74)]) ⟨z8 z7 b9M, ⟨c8W z7 c9n, ⟨z8 z7 b2h, ⟨z8 z7 b4v, trivial⟩⟩⟩⟩ 3) mixed 11 (fn := Go.Proofs.Tryz.f118) (cd := v8 Go.Proofs.Tryz.f118) (H := c1K) (rl := [.tmp 2]) Go.Proofs.Tryz.func118 (by kernel_rfl) (by kernel_rfl) (by kernel_rfl) (by kernel_rfl) (by kernel_rfl) (by kernel_rfl) (by kernel_rfl)
def c1Q : Hints I where
 tds := fun i => (asc [(1, [[], [0], [0, 1], [], [3], [0, 1, 2, 3, 4], [], [6], [0, 1, 2, 3, 4, 5, 6, 7], [0, 1, 2, 3, 4, 5, 6, 7, 8]])] i).getD []
 spl := fun i => (asc [] i).getD []
 pre := fun i => (asc [] i).getD []
 join := asc []
 loop := asc []
 keep := asc []
def b3N : Row I := ⟨72, [.d (.dat 47)], [.k (.d (.dat 47))], a6X⟩
theorem c0Q : y4 Go.Proofs.Tryz.prog (b3N) :=
 j8 z7 (y9 (es := [j6 tb (b3R)]) ⟨z8 z7 c0H, trivial⟩ 3) mixed 12 (fn := Go.Proofs.Tryz.f72) (cd := v8 Go.Proofs.Tryz.f72) (H := c1Q) (rl := [.cell 2 47]) Go.Proofs.Tryz.func72 (by kernel_rfl) (by kernel_rfl) (by kernel_rfl) (by kernel_rfl) (by kernel_rfl) (by kernel_rfl) (by kernel_rfl)
def c1O : Hints I where
 tds := fun i => (asc [(32, [[], [0], [], [2], [0, 1, 2, 3], [0, 1, 2, 3, 4], [0, 1, 2, 3, 4, 5], [0, 1, 2, 3, 4, 5, 6], [0, 1, 2, 3, 4, 5, 6, 7], [0, 1, 2, 3, 4, 5, 6], [0, 1, 2, 3, 4, 5, 6], [0, 1, 2, 3, 4, 5, 6, 9, 10], [0, 1, 2, 3, 4, 5, 6, 9, 10, 11], [0, 1, 2, 3, 4, 5, 6, 7, 8, 9, 10, 11, 12], [0, 1, 2, 3, 4, 5, 6, 7, 8, 9, 10, 11, 12, 13], [0, 1, 2, 3, 4, 5, 6, 7, 8, 9, 10, 11, 12, 13, 14], [0, 1, 2, 3, 4, 5, 6, 7, 8, 9, 10, 11, 12, 13, 14, 15], [0, 1, 2, 3, 4, 5, 6, 7, 8, 9, 10, 11, 12, 13, 14, 15, 16]])] i).getD []
 spl := fun i => (asc [] i).getD []
 pre := fun i => (asc [(21, [1000011]), (24, [11])] i).getD []
 join := asc [(16381, ⟨22657557121707113111800289765010735290080296960, [], [], [(.normal, [(19, .k (.d (.sl 47))), (22, .k (.row 57 false))])]⟩)]
 loop := asc [(8186, ⟨680543964654442787616235092878222164224, [], [], [(19, .k (.row 47 false)), (114, .k (.d (.int .i64)))], [((.exit 4), [(19, .k (.row 47 false))]), (.ret, [(8, .k (.row 57 false))])], bnd tb (.slot 113) 1⟩),
  (1048490, ⟨186889521873689210665296197983594691138502415876096, [], [], [(23, .k (.row 47 false)), (157, .k (.d (.int .i64)))], [((.exit 6), [(23, .k (.row 47 false))])], bnd tb (.slot 156) 1⟩)]
 keep := asc []
 nst := asc [(250, ⟨⟨4503049871560704, [], [], [(39, .k (.d (.int .i64)))], [((.exit 0), [])], bnd tb (.slot 38) 1⟩, 11, 47⟩),
  (2042, ⟨⟨5192296858534826475608991722881280, [], [(13, .lvs [.row 3 false, .row 3 false, .d (.bool)])], [(14, .k (.d (.bool))), (60, .k (.d (.int .i64)))], [((.exit 2), [(14, .k (.d (.bool)))]), (.ret, [(8, .k (.row 57 false))])], bnd tb (.slot 59) 1⟩, 11, 47⟩)]
def b3J : Row I := ⟨43, [.d (.dat 36), .d (.sl 3), .d (.int .i64), .d (.sl 3)], [.k (.row 57 false)], b0I⟩
theorem c1h : y4 Go.Proofs.Tryz.prog (b3J) :=
 j8 z7 (y9 (es := [j6 tb (b1H), j6 tb (b3N)]) ⟨z8 z7 b9t, ⟨z8 z7 c0Q, trivial⟩⟩ 3) mixed 173 (fn := Go.Proofs.Tryz.f43) (cd := v8 Go.Proofs.Tryz.f43) (H := c1O) (rl := [.tmp 8]) Go.Proofs.Tryz.func43 (by kernel_rfl) (by kernel_rfl) (by kernel_rfl) (by kernel_rfl) (by kernel_rfl) (by kernel_rfl) (by kernel_rfl)
def c1X (n : Nat) : Hints I where
 tds := fun i => (asc [(1, [[], [0], [0, 1], [0, 1, 2], [0, 1, 2, 3], [0, 1, 2, 3], [0, 1, 2, 3, 5], [0, 1, 2, 3], [0, 1, 2, 3, 7], [0, 1, 2, 3, 5, 6, 7, 8], [0, 1, 2, 3, 4, 5, 6, 7, 8, 9], [0, 1, 2, 3, 4, 5, 6, 7, 8, 9, 10], [0, 1, 2, 3, 4, 5, 6, 7, 8, 9, 10, 11]])] i).getD []
 spl := fun i => (asc [(1, [18])] i).getD []
 pre := fun i => (asc [] i).getD []
 join := asc [(12, ⟨268402688, [], [], [(.normal, [(27, .k (.d (.bool)))])]⟩)]
 loop := asc [(122, ⟨2251731094209728, [], [], [(36, .k (.d (.int .i64)))], [((.exit 0), []), (.ret, [(6, .k (.row 57 false)), (7, .k (.d (.int .i64)))])], bnd tb (.slot 35) 1⟩),
  (1018, ⟨2360606780682519201792, [57], [], [(11, .k (.row 57 false)), (59, .k (.d (.int .i64)))], [((.exit 2), [(11, .k (.row 57 false))])], bnd tb (.slot 58) 1⟩)]
 keep := asc []
def a9O (n : Nat) : Row I := ⟨17, [.d (.dat 36), .d (.sl 3), .d (.int .i64)], [.k (.row 57 false), .k (.d (.int .i64))], a8E n⟩
theorem b4S (n : Nat) : y4 Go.Proofs.Tryz.prog (a9O n) :=
 j8 z7 (y9 (es := [j6 tb (a2R n), j6 tb b43, j6 tb (a6Z), j6 tb (b1I), j6 tb (b3J)]) ⟨z8 z7 (a5j n), ⟨z8 z7 b9M, ⟨z8 z7 b05, ⟨z8 z7 b9a, ⟨z8 z7 c1h, trivial⟩⟩⟩⟩⟩ 3) mixed 72 (fn := Go.Proofs.Tryz.f17) (cd := v8 Go.Proofs.Tryz.f17) (H := (c1X n)) (rl := [.tmp 6, .tmp 7]) Go.Proofs.Tryz.func17 (by kernel_rfl) (by kernel_rfl) (by kernel_rfl) (by kernel_rfl) (by kernel_rfl) (by kernel_rfl) (by kernel_rfl)
def a61 : Hints I where
 tds := fun i => (asc [] i).getD []
 spl := fun i => (asc [] i).getD []
 pre := fun i => (asc [] i).getD []
 join := asc []
 loop := asc [(26, ⟨524080, [], [], [(8, .k (.d (.int .i64)))], [((.exit 0), []), (.ret, [(4, .k (.d (.int .i64)))])], bnd tb (.slot 7) 1⟩)]
 keep := asc []
def a2w : Row I := ⟨109, [.d (.sl 28), .fn [.dat 28] [.k (.d (.bool))]], [.k (.d (.int .i64))], a3v⟩
theorem a6R : y4 Go.Proofs.Tryz.prog (a2w) :=
 j8 z7 (y9 (es := []) trivial 3) mixed 19 (fn := Go.Proofs.Tryz.f109) (cd := v8 Go.Proofs.Tryz.f109) (H := a61) (rl := [.tmp 4]) Go.Proofs.Tryz.func109 (by kernel_rfl) (by kernel_rfl) (by kernel_rfl) (by kernel_rfl) (by kernel_rfl) (by kernel_rfl) (by kernel_rfl)
def a6e : Hints I where
 tds := fun i => (asc [] i).getD []
 spl := fun i => (asc [] i).getD []
 pre := fun i => (asc [] i).getD []
 join := asc []
 loop := asc []
 keep := asc []
def a1Z : Row I := ⟨64, [.d (.sl 28), .fn [.dat 28] [.k (.d (.bool))]], [.k (.d (.bool))], a2G⟩
theorem a57 : y4 Go.Proofs.Tryz.prog (a1Z) :=
 j8 z7 (y9 (es := [j6 tb (a2w)]) ⟨z8 z7 a6R, trivial⟩ 3) mixed 9 (fn := Go.Proofs.Tryz.f64) (cd := v8 Go.Proofs.Tryz.f64) (H := a6e) (rl := [.tmp 4]) Go.Proofs.Tryz.func64 (by kernel_rfl) (by kernel_rfl) (by kernel_rfl) (by kernel_rfl) (by kernel_rfl) (by kernel_rfl) (by kernel_rfl)
def c3n : Hints I where
 tds := fun i => (asc [] i).getD []
 spl := fun i => (asc [] i).getD []
 pre := fun i => (asc [] i).getD []
 join := asc [(105, ⟨160, [], [], [(.normal, [(5, .k (.d (.bool)))])]⟩),
  (429, ⟨2560, [], [], [(.normal, [(9, .k (.d (.bool)))])]⟩),
  (6909, ⟨327680, [], [], [(.normal, [(16, .k (.d (.bool)))])]⟩)]
 loop := asc []
 keep := asc []
def b5c : Row I := ⟨154, [.d (.int .i64)], [.k (.d (.dat 153)), .k (.d (.bool))], a7N⟩
theorem c1N : y4 Go.Proofs.Tryz.prog (b5c) :=
 j8 z7 (y9 (es := []) trivial 3) mixed 27 (fn := Go.Proofs.Tryz.f154) (cd := v8 Go.Proofs.Tryz.f154) (H := c3n) (rl := [.cell 2 153, .tmp 3]) Go.Proofs.Tryz.func154 (by kernel_rfl) (by kernel_rfl) (by kernel_rfl) (by kernel_rfl) (by kernel_rfl) (by kernel_rfl) (by kernel_rfl)
def b2M : Hints I where
 tds := fun i => (asc [(4, [[], [], [], [2], [1, 2, 3], [1, 2, 3, 4], [], [], [6, 7], [6, 7, 8], [0, 1, 2, 3, 4, 5, 6, 7, 8, 9], [0, 1, 2, 3, 4, 5, 6, 7, 8, 9, 10]])] i).getD []
 spl := fun i => (asc [] i).getD []
 pre := fun i => (asc [] i).getD []
 join := asc []
 loop := asc [(26, ⟨16777200, [], [], [(5, .k (.d (.int .i64)))], [((.exit 0), []), (.ret, [(4, .k (.d (.bool)))])], bnd tb (.len (.slot 0)) 1⟩)]
 keep := asc []
def a6M : Row I := ⟨173, [.d (.sl 9), .fn [.str, .str] [.k (.d (.int .i64))]], [.k (.d (.bool))], a5l⟩
theorem b2a : y4 Go.Proofs.Tryz.prog (a6M) :=
 j8 z7 (y9 (es := []) trivial 3) mixed 24 (fn := Go.Proofs.Tryz.f173) (cd := v8 Go.Proofs.Tryz.f173) (H := b2M) (rl := [.tmp 4]) Go.Proofs.Tryz.func173 (by kernel_rfl) (by kernel_rfl) (by kernel_rfl) (by kernel_rfl) (by kernel_rfl) (by kernel_rfl) (by kernel_rfl)
def b6A : Hints I where
 tds := fun i => (asc [] i).getD []
 spl := fun i => (asc [] i).getD []
 pre := fun i => (asc [] i).getD []
 join := asc []
 loop := asc [(58, ⟨261140, [], [], [(10, .k (.d (.int .i64)))], [((.exit 0), []), (.ret, [(2, .k (.d (.bool)))])], bnd tb (.slot 9) 1⟩)]
 keep := asc []
def a9c : Row I := ⟨155, [.d (.sl 9)], [.k (.d (.bool))], a5C⟩
theorem b5K : y4 Go.Proofs.Tryz.prog (a9c) :=
 j8 z7 (y9 (es := [j6 tb (a6M), j6 tb (a4D), j6 tb (a6m)]) ⟨z8 z7 b2a, ⟨z8 z7 a7l, ⟨z8 z7 a97, trivial⟩⟩⟩ 3) mixed 18 (fn := Go.Proofs.Tryz.f155) (cd := v8 Go.Proofs.Tryz.f155) (H := b6A) (rl := [.tmp 2]) Go.Proofs.Tryz.func155 (by kernel_rfl) (by kernel_rfl) (by kernel_rfl) (by kernel_rfl) (by kernel_rfl) (by kernel_rfl) (by kernel_rfl)
def b1Y : Hints I where
 tds := fun i => (asc [(4, [[], [], [], [2], [1, 2, 3], [1, 2, 3, 4], [], [], [6, 7], [6, 7, 8], [0, 1, 2, 3, 4, 5, 6, 7, 8, 9], [0, 1, 2, 3, 4, 5, 6, 7, 8, 9, 10]])] i).getD []
 spl := fun i => (asc [] i).getD []
 pre := fun i => (asc [] i).getD []
 join := asc []
 loop := asc [(26, ⟨16777200, [], [], [(5, .k (.d (.int .i64)))], [((.exit 0), []), (.ret, [(4, .k (.d (.bool)))])], bnd tb (.len (.slot 0)) 1⟩)]
 keep := asc []
def a6g : Row I := ⟨174, [.d (.sl 114), .fn [.dat 114, .dat 114] [.k (.d (.int .i64))]], [.k (.d (.bool))], a4Y⟩
theorem b1r : y4 Go.Proofs.Tryz.prog (a6g) :=
 j8 z7 (y9 (es := []) trivial 3) mixed 24 (fn := Go.Proofs.Tryz.f174) (cd := v8 Go.Proofs.Tryz.f174) (H := b1Y) (rl := [.tmp 4]) Go.Proofs.Tryz.func174 (by kernel_rfl) (by kernel_rfl) (by kernel_rfl) (by kernel_rfl) (by kernel_rfl) (by kernel_rfl) (by kernel_rfl)
def b9j : Hints I where
 tds := fun i => (asc [] i).getD []
 spl := fun i => (asc [] i).getD []
 pre := fun i => (asc [] i).getD []
 join := asc []
 loop := asc [(58, ⟨534773780, [], [], [(21, .k (.d (.int .i64)))], [((.exit 0), []), (.ret, [(2, .k (.d (.bool)))])], bnd tb (.slot 20) 1⟩)]
 keep := asc []
def b00 : Row I := ⟨156, [.d (.dat 28)], [.k (.d (.bool))], a7V⟩
theorem b8v : y4 Go.Proofs.Tryz.prog (b00) :=
 j8 z7 (y9 (es := [j6 tb (a6g), j6 tb (a3A), j6 tb (a7x)]) ⟨z8 z7 b1r, ⟨z8 z7 a6z, ⟨z8 z7 b1G, trivial⟩⟩⟩ 3) mixed 29 (fn := Go.Proofs.Tryz.f156) (cd := v8 Go.Proofs.Tryz.f156) (H := b9j) (rl := [.tmp 2]) Go.Proofs.Tryz.func156 (by kernel_rfl) (by kernel_rfl) (by kernel_rfl) (by kernel_rfl) (by kernel_rfl) (by kernel_rfl) (by kernel_rfl)
def b0W : Hints I where
 tds := fun i => (asc [(4, [[], [], [], [2], [1, 2, 3], [1, 2, 3, 4], [], [], [6, 7], [6, 7, 8], [0, 1, 2, 3, 4, 5, 6, 7, 8, 9], [0, 1, 2, 3, 4, 5, 6, 7, 8, 9, 10]])] i).getD []
 spl := fun i => (asc [] i).getD []
 pre := fun i => (asc [] i).getD []
 join := asc []
 loop := asc [(26, ⟨16777200, [], [], [(5, .k (.d (.int .i64)))], [((.exit 0), []), (.ret, [(4, .k (.d (.bool)))])], bnd tb (.len (.slot 0)) 1⟩)]
 keep := asc []
def a5u : Row I := ⟨175, [.d (.sl 30), .fn [.dat 30, .dat 30] [.k (.d (.int .i64))]], [.k (.d (.bool))], a37⟩
theorem b0b : y4 Go.Proofs.Tryz.prog (a5u) :=
 j8 z7 (y9 (es := []) trivial 3) mixed 24 (fn := Go.Proofs.Tryz.f175) (cd := v8 Go.Proofs.Tryz.f175) (H := b0W) (rl := [.tmp 4]) Go.Proofs.Tryz.func175 (by kernel_rfl) (by kernel_rfl) (by kernel_rfl) (by kernel_rfl) (by kernel_rfl) (by kernel_rfl) (by kernel_rfl)
def a9L : Hints I where
 tds := fun i => (asc [(7, [[], [], [], [1, 2], [1, 2, 3], [], [], [5, 6], [5, 6, 7], [0, 1, 2, 3, 4, 5, 6, 7, 8], [0, 1, 2, 3, 4, 5, 6, 7, 8, 9]])] i).getD []
 spl := fun i => (asc [] i).getD []
 pre := fun i => (asc [] i).getD []
 join := asc []
 loop := asc [(58, ⟨137437905728, [], [], [(20, .k (.d (.int .i64)))], [((.exit 0), []), (.ret, [(6, .k (.d (.int .i64)))])], bnd tb (.slot 19) 1⟩)]
 keep := asc []
def a4k : Row I := ⟨188, [.d (.sl 28), .d (.sl 28), .fn [.dat 28, .dat 28] [.k (.d (.int .i64))]], [.k (.d (.int .i64))], a25⟩
theorem a9d : y4 Go.Proofs.Tryz.prog (a4k) :=
 j8 z7 (y9 (es := [j6 tb (a09)]) ⟨z8 z7 a19, trivial⟩ 3) mixed 37 (fn := Go.Proofs.Tryz.f188) (cd := v8 Go.Proofs.Tryz.f188) (H := a9L) (rl := [.tmp 6]) Go.Proofs.Tryz.func188 (by kernel_rfl) (by kernel_rfl) (by kernel_rfl) (by kernel_rfl) (by kernel_rfl) (by kernel_rfl) (by kernel_rfl)
def b8s : Hints I where
 tds := fun i => (asc [] i).getD []
 spl := fun i => (asc [] i).getD []
 pre := fun i => (asc [] i).getD []
 join := asc []
 loop := asc []
 keep := asc []
def a98 : Row I := ⟨209, [.d (.int .i64)], [.k (.d (.bool))], a69⟩
theorem b7i : y4 Go.Proofs.Tryz.prog (a98) :=
 j8 z7 (y9 (es := []) trivial 3) mixed 6 (fn := Go.Proofs.Tryz.f209) (cd := v8 Go.Proofs.Tryz.f209) (H := b8s) (rl := [.tmp 2]) Go.Proofs.Tryz.func209 (by kernel_rfl) (by kernel_rfl) (by kernel_rfl) (by kernel_rfl) (by kernel_rfl) (by kernel_rfl) (by kernel_rfl)
def b6w : Hints I where
 tds := fun i => (asc [] i).getD []
 spl := fun i => (asc [] i).getD []
 pre := fun i => (asc [] i).getD []
 join := asc []
 loop := asc []
 keep := asc []
def a84 : Row I := ⟨189, [.d (.int .i64), .d (.int .i64)], [.k (.d (.int .i64))], a5B⟩
theorem b6d : y4 Go.Proofs.Tryz.prog (a84) :=
 j8 z7 (y9 (es := [j6 tb (a98)]) ⟨z8 z7 b7i, trivial⟩ 3) mixed 20 (fn := Go.Proofs.Tryz.f189) (cd := v8 Go.Proofs.Tryz.f189) (H := b6w) (rl := [.tmp 4]) Go.Proofs.Tryz.func189 (by kernel_rfl) (by kernel_rfl) (by kernel_rfl) (by kernel_rfl) (by kernel_rfl) (by kernel_rfl) (by kernel_rfl)
def b0x : Hints I where
 tds := fun i => (asc [(7, [[], [], [], [1, 2], [1, 2, 3], [], [], [5, 6], [5, 6, 7], [0, 1, 2, 3, 4, 5, 6, 7, 8], [0, 1, 2, 3, 4, 5, 6, 7, 8, 9]])] i).getD []
 spl := fun i => (asc [] i).getD []
 pre := fun i => (asc [] i).getD []
 join := asc []
 loop := asc [(58, ⟨137437905728, [], [], [(20, .k (.d (.int .i64)))], [((.exit 0), []), (.ret, [(6, .k (.d (.int .i64)))])], bnd tb (.slot 19) 1⟩)]
 keep := asc []
def a47 : Row I := ⟨190, [.d (.sl 114), .d (.sl 114), .fn [.dat 114, .dat 114] [.k (.d (.int .i64))]], [.k (.d (.int .i64))], a3K⟩
theorem a9X : y4 Go.Proofs.Tryz.prog (a47) :=
 j8 z7 (y9 (es := [j6 tb (a09)]) ⟨z8 z7 a19, trivial⟩ 3) mixed 37 (fn := Go.Proofs.Tryz.f190) (cd := v8 Go.Proofs.Tryz.f190) (H := b0x) (rl := [.tmp 6]) Go.Proofs.Tryz.func190 (by kernel_rfl) (by kernel_rfl) (by kernel_rfl) (by kernel_rfl) (by kernel_rfl) (by kernel_rfl) (by kernel_rfl)
def a9D : Hints I where
 tds := fun i => (asc [(7, [[], [], [], [1, 2], [1, 2, 3], [], [], [5, 6], [5, 6, 7], [0, 1, 2, 3, 4, 5, 6, 7, 8], [0, 1, 2, 3, 4, 5, 6, 7, 8, 9]])] i).getD []
 spl := fun i => (asc [] i).getD []
 pre := fun i => (asc [] i).getD []
 join := asc []
 loop := asc [(58, ⟨137437905728, [], [], [(20, .k (.d (.int .i64)))], [((.exit 0), []), (.ret, [(6, .k (.d (.int .i64)))])], bnd tb (.slot 19) 1⟩)]
 keep := asc []
def a4s : Row I := ⟨191, [.d (.sl 30), .d (.sl 30), .fn [.dat 30, .dat 30] [.k (.d (.int .i64))]], [.k (.d (.int .i64))], a23⟩
theorem a9f : y4 Go.Proofs.Tryz.prog (a4s) :=
 j8 z7 (y9 (es := [j6 tb (a09)]) ⟨z8 z7 a19, trivial⟩ 3) mixed 37 (fn := Go.Proofs.Tryz.f191) (cd := v8 Go.Proofs.Tryz.f191) (H := a9D) (rl := [.tmp 6]) Go.Proofs.Tryz.func191 (by kernel_rfl) (by kernel_rfl) (by kernel_rfl) (by kernel_rfl) (by kernel_rfl) (by kernel_rfl) (by kernel_rfl)
def b1e : Hints I where
 tds := fun i => (asc [(7, [[], [], [], [1, 2], [1, 2, 3], [], [], [5, 6], [5, 6, 7], [0, 1, 2, 3, 4, 5, 6, 7, 8], [0, 1, 2, 3, 4, 5, 6, 7, 8, 9]])] i).getD []
 spl := fun i => (asc [] i).getD []
 pre := fun i => (asc [] i).getD []
 join := asc []
 loop := asc [(58, ⟨137437905728, [], [], [(20, .k (.d (.int .i64)))], [((.exit 0), []), (.ret, [(6, .k (.d (.int .i64)))])], bnd tb (.slot 19) 1⟩)]
 keep := asc []
def a5v : Row I := ⟨192, [.d (.sl 9), .d (.sl 9), .fn [.str, .str] [.k (.d (.int .i64))]], [.k (.d (.int .i64))], a4a⟩
theorem b0o : y4 Go.Proofs.Tryz.prog (a5v) :=
 j8 z7 (y9 (es := [j6 tb (a09)]) ⟨z8 z7 a19, trivial⟩ 3) mixed 37 (fn := Go.Proofs.Tryz.f192) (cd := v8 Go.Proofs.Tryz.f192) (H := b1e) (rl := [.tmp 6]) Go.Proofs.Tryz.func192 (by kernel_rfl) (by kernel_rfl) (by kernel_rfl) (by kernel_rfl) (by kernel_rfl) (by kernel_rfl) (by kernel_rfl)
def b9F (n : Nat) : Hints I where
 tds := fun i => (asc [] i).getD []
 spl := fun i => (asc [] i).getD []
 pre := fun i => (asc [] i).getD []
 join := asc []
 loop := asc []
 keep := asc []
def a0D (n : Nat) : Row I := ⟨165, [.d (.dat 28), .d (.dat 28)], [.k (.d (.int .i64))], a2H n⟩
def b35 (n : Nat) : Hints I where
 tds := fun i => (asc [] i).getD []
 spl := fun i => (asc [] i).getD []
 pre := fun i => (asc [] i).getD []
 join := asc []
 loop := asc []
 keep := asc []
def W0 (n : Nat) : Row I := ⟨126, [.d (.dat 30), .d (.dat 30)], [.k (.d (.int .i64))], V6 n⟩
def b5l (n : Nat) : Hints I where
 tds := fun i => (asc [] i).getD []
 spl := fun i => (asc [] i).getD []
 pre := fun i => (asc [] i).getD []
 join := asc []
 loop := asc []
 keep := asc []
def a0p (n : Nat) : Row I := ⟨164, [.d (.sl 28), .d (.sl 28)], [.k (.d (.int .i64))], a2U n⟩
theorem b8m (n : Nat) (h_value_Compare : y4 Go.Proofs.Tryz.prog (a0D n)) (h_value_compareEntries : y4 Go.Proofs.Tryz.prog (W0 n)) (h_value_compareValues : y4 Go.Proofs.Tryz.prog (a0p n)) : y4 Go.Proofs.Tryz.prog (a0D (n + 1)) :=
 j8 z7 (y9 (es := [j6 tb (a09), j6 tb (a84), j6 tb (a4D), j6 tb (a47), j6 tb (a3A), j6 tb (a0p n), j6 tb (a4s), j6 tb (W0 n), j6 tb (a5v)]) ⟨z8 z7 a19, ⟨z8 z7 b6d, ⟨z8 z7 a7l, ⟨z8 z7 a9X, ⟨z8 z7 a6z, ⟨z8 z7 h_value_compareValues, ⟨z8 z7 a9f, ⟨z8 z7 h_value_compareEntries, ⟨z8 z7 b0o, trivial⟩⟩⟩⟩⟩⟩⟩⟩⟩ 3) mixed 64 (fn := Go.Proofs.Tryz.f165) (cd := v8 Go.Proofs.Tryz.f165) (H := (b9F n)) (rl := [.tmp 4]) Go.Proofs.Tryz.func165 (by kernel_rfl) (by kernel_rfl) (by kernel_rfl) (by kernel_rfl) (by kernel_rfl) (by kernel_rfl) (by kernel_rfl)
theorem b3c (n : Nat) (h_value_Compare : y4 Go.Proofs.Tryz.prog (a0D n)) (h_value_compareEntries : y4 Go.Proofs.Tryz.prog (W0 n)) (h_value_compareValues : y4 Go.Proofs.Tryz.prog (a0p n)) : y4 Go.Proofs.Tryz.prog (W0 (n + 1)) :=
 j8 z7 (y9 (es := [j6 tb (a0p n), j6 tb (a0D n)]) ⟨z8 z7 h_value_compareValues, ⟨z8 z7 h_value_Compare, trivial⟩⟩ 3) mixed 26 (fn := Go.Proofs.Tryz.f126) (cd := v8 Go.Proofs.Tryz.f126) (H := (b35 n)) (rl := [.tmp 4]) Go.Proofs.Tryz.func126 (by kernel_rfl) (by kernel_rfl) (by kernel_rfl) (by kernel_rfl) (by kernel_rfl) (by kernel_rfl) (by kernel_rfl)
theorem b3x (n : Nat) (h_value_Compare : y4 Go.Proofs.Tryz.prog (a0D n)) (h_value_compareEntries : y4 Go.Proofs.Tryz.prog (W0 n)) (h_value_compareValues : y4 Go.Proofs.Tryz.prog (a0p n)) : y4 Go.Proofs.Tryz.prog (a0p (n + 1)) :=
 j8 z7 (y9 (es := [j6 tb (a4k), j6 tb (a0D n)]) ⟨z8 z7 a9d, ⟨z8 z7 h_value_Compare, trivial⟩⟩ 3) mixed 8 (fn := Go.Proofs.Tryz.f164) (cd := v8 Go.Proofs.Tryz.f164) (H := (b5l n)) (rl := [.tmp 4]) Go.Proofs.Tryz.func164 (by kernel_rfl) (by kernel_rfl) (by kernel_rfl) (by kernel_rfl) (by kernel_rfl) (by kernel_rfl) (by kernel_rfl)
theorem a6t : ∀ n : Nat, y4 Go.Proofs.Tryz.prog (a0D n) /\ y4 Go.Proofs.Tryz.prog (W0 n) /\ y4 Go.Proofs.Tryz.prog (a0p n)
 | 0 => ⟨Q9 (by kernel_rfl), Q9 (by kernel_rfl), Q9 (by kernel_rfl)⟩
 | n + 1 => by
   obtain ⟨h0, h1, h2⟩ := a6t n
   exact ⟨b8m n h0 h1 h2, b3c n h0 h1 h2, b3x n h0 h1 h2⟩
theorem b8T (n : Nat) : y4 Go.Proofs.Tryz.prog (a0D n) := (a6t n).1
theorem b3s (n : Nat) : y4 Go.Proofs.Tryz.prog (W0 n) := (a6t n).2.1
def c1W (n : Nat) : Hints I where
 tds := fun i => (asc [] i).getD []
 spl := fun i => (asc [] i).getD []
 pre := fun i => (asc [] i).getD []
 join := asc []
 loop := asc []
 keep := asc []
def b3D (n : Nat) : Row I := ⟨159, [.d (.dat 28), .d (.dat 28)], [.k (.d (.bool))], b3W n⟩
theorem c04 (n : Nat) : y4 Go.Proofs.Tryz.prog (b3D n) :=
 j8 z7 (y9 (es := [j6 tb (a0D n)]) ⟨z8 z7 (b8T n), trivial⟩ 3) mixed 9 (fn := Go.Proofs.Tryz.f159) (cd := v8 Go.Proofs.Tryz.f159) (H := (c1W n)) (rl := [.tmp 4]) Go.Proofs.Tryz.func159 (by kernel_rfl) (by kernel_rfl) (by kernel_rfl) (by kernel_rfl) (by kernel_rfl) (by kernel_rfl) (by kernel_rfl)
def c0X (n : Nat) : Hints I where
 tds := fun i => (asc [] i).getD []
 spl := fun i => (asc [] i).getD []
 pre := fun i => (asc [] i).getD []
 join := asc []
 loop := asc []
 keep := asc []
def b24 (n : Nat) : Row I := ⟨123, [.d (.dat 28)], [.k (.d (.bool))], b2T n⟩
theorem b9u (n : Nat) : y4 Go.Proofs.Tryz.prog (b24 n) :=
 j8 z7 (y9 (es := [j6 tb (b3D n)]) ⟨z8 z7 (c04 n), trivial⟩ 3) mixed 6 (fn := Go.Proofs.Tryz.f123) (cd := v8 Go.Proofs.Tryz.f123) (H := (c0X n)) (rl := [.tmp 2]) Go.Proofs.Tryz.func123 (by kernel_rfl) (by kernel_rfl) (by kernel_rfl) (by kernel_rfl) (by kernel_rfl) (by kernel_rfl) (by kernel_rfl)
def b62 (n : Nat) : Hints I where
 tds := fun i => (asc [] i).getD []
 spl := fun i => (asc [] i).getD []
 pre := fun i => (asc [] i).getD []
 join := asc []
 loop := asc []
 keep := asc []
def a9z (n : Nat) : Row I := ⟨77, [.d (.dat 30), .d (.int .i64)], [.k (.d (.bool))], a4A n⟩
theorem b6z (n : Nat) : y4 Go.Proofs.Tryz.prog (a9z n) :=
 j8 z7 (y9 (es := [j6 tb (b24 n)]) ⟨z8 z7 (b9u n), trivial⟩ 3) mixed 20 (fn := Go.Proofs.Tryz.f77) (cd := v8 Go.Proofs.Tryz.f77) (H := (b62 n)) (rl := [.tmp 4]) Go.Proofs.Tryz.func77 (by kernel_rfl) (by kernel_rfl) (by kernel_rfl) (by kernel_rfl) (by kernel_rfl) (by kernel_rfl) (by kernel_rfl)
def b4Z (n : Nat) : Hints I where
 tds := fun i => (asc [] i).getD []
 spl := fun i => (asc [] i).getD []
 pre := fun i => (asc [] i).getD []
 join := asc []
 loop := asc [(58, ⟨4290773012, [], [], [(22, .k (.d (.int .i64)))], [((.exit 0), []), (.ret, [(2, .k (.d (.bool)))])], bnd tb (.slot 21) 1⟩)]
 keep := asc []
def a79 (n : Nat) : Row I := ⟨157, [.d (.dat 28)], [.k (.d (.bool))], a4C n⟩
theorem b4y (n : Nat) : y4 Go.Proofs.Tryz.prog (a79 n) :=
 j8 z7 (y9 (es := [j6 tb (a5u), j6 tb (W0 n), j6 tb (a9z n)]) ⟨z8 z7 b0b, ⟨z8 z7 (b3s n), ⟨z8 z7 (b6z n), trivial⟩⟩⟩ 3) mixed 32 (fn := Go.Proofs.Tryz.f157) (cd := v8 Go.Proofs.Tryz.f157) (H := (b4Z n)) (rl := [.tmp 2]) Go.Proofs.Tryz.func157 (by kernel_rfl) (by kernel_rfl) (by kernel_rfl) (by kernel_rfl) (by kernel_rfl) (by kernel_rfl) (by kernel_rfl)
def b8A (n : Nat) : Hints I where
 tds := fun i => (asc [] i).getD []
 spl := fun i => (asc [] i).getD []
 pre := fun i => (asc [] i).getD []
 join := asc []
 loop := asc []
 keep := asc []
def a94 (n : Nat) : Row I := ⟨121, [.d (.dat 28)], [.k (.d (.bool))], a7c n⟩
theorem b65 (n : Nat) : y4 Go.Proofs.Tryz.prog (a94 n) :=
 j8 z7 (y9 (es := [j6 tb (b5c), j6 tb (a9c), j6 tb (a6A), j6 tb (b00), j6 tb (a79 n)]) ⟨z8 z7 c1N, ⟨z8 z7 b5K, ⟨z8 z7 a9P, ⟨z8 z7 b8v, ⟨z8 z7 (b4y n), trivial⟩⟩⟩⟩⟩ 3) mixed 124 (fn := Go.Proofs.Tryz.f121) (cd := v8 Go.Proofs.Tryz.f121) (H := (b8A n)) (rl := [.tmp 2]) Go.Proofs.Tryz.func121 (by kernel_rfl) (by kernel_rfl) (by kernel_rfl) (by kernel_rfl) (by kernel_rfl) (by kernel_rfl) (by kernel_rfl)
def c1P : Hints I where
 tds := fun i => (asc [] i).getD []
 spl := fun i => (asc [] i).getD []
 pre := fun i => (asc [] i).getD []
 join := asc []
 loop := asc [(58, ⟨536866856, [], [], [(3, .k (.row 28 false)), (12, .k (.d (.int .i64)))], [((.exit 0), [(3, .k (.row 28 false))])], bnd tb (.slot 11) 1⟩)]
 keep := asc []
def b3E : Row I := ⟨122, [.d (.dat 28)], [.k (.row 28 false)], b0L⟩
theorem c0x : y4 Go.Proofs.Tryz.prog (b3E) :=
 j8 z7 (y9 (es := [j6 tb c31]) ⟨z8 z7 c91, trivial⟩ 3) mixed 30 (fn := Go.Proofs.Tryz.f122) (cd := v8 Go.Proofs.Tryz.f122) (H := c1P) (rl := [.tmp 2]) Go.Proofs.Tryz.func122 (by kernel_rfl) (by kernel_rfl) (by kernel_rfl) (by kernel_rfl) (by kernel_rfl) (by kernel_rfl) (by kernel_rfl)
def b8x (n : Nat) : Hints I where
 tds := fun i => (asc [] i).getD []
 spl := fun i => (asc [] i).getD []
 pre := fun i => (asc [] i).getD []
 join := asc []
 loop := asc [(58, ⟨522260, [9], [], [(11, .k (.d (.int .i64)))], [((.exit 0), []), (.ret, [(2, .k (.d (.bool)))])], bnd tb (.slot 10) 1⟩)]
 keep := asc []
def a2Y (n : Nat) : Row I := ⟨76, [.d (.dat 28)], [.k (.d (.bool))], a2A n⟩
theorem b6O (n : Nat) (h_value_validTree : y4 Go.Proofs.Tryz.prog (a2Y n)) : y4 Go.Proofs.Tryz.prog (a2Y (n + 1)) :=
 j8 z7 (y9 (es := [j6 tb (a94 n), j6 tb (b3E), j6 tb (a2Y n)]) ⟨z8 z7 (b65 n), ⟨z8 z7 c0x, ⟨z8 z7 h_value_validTree, trivial⟩⟩⟩ 3) mixed 19 (fn := Go.Proofs.Tryz.f76) (cd := v8 Go.Proofs.Tryz.f76) (H := (b8x n)) (rl := [.tmp 2]) Go.Proofs.Tryz.func76 (by kernel_rfl) (by kernel_rfl) (by kernel_rfl) (by kernel_rfl) (by kernel_rfl) (by kernel_rfl) (by kernel_rfl)
theorem b03 : ∀ n : Nat, y4 Go.Proofs.Tryz.prog (a2Y n)
 | 0 => Q9 (by kernel_rfl)
 | n + 1 => b6O n (b03 n)
def b9n (n : Nat) : Hints I where
 tds := fun i => (asc [] i).getD []
 spl := fun i => (asc [] i).getD []
 pre := fun i => (asc [] i).getD []
 join := asc []
 loop := asc []
 keep := asc []
def a7t (n : Nat) : Row I := ⟨48, [.d (.dat 28)], [.k (.d (.int .i64))], a5J n⟩
theorem b1M (n : Nat) : y4 Go.Proofs.Tryz.prog (a7t n) :=
 j8 z7 (y9 (es := [j6 tb (a2Y n)]) ⟨z8 z7 (b03 n), trivial⟩ 3) mixed 6 (fn := Go.Proofs.Tryz.f48) (cd := v8 Go.Proofs.Tryz.f48) (H := (b9n n)) (rl := [.tmp 2]) Go.Proofs.Tryz.func48 (by kernel_rfl) (by kernel_rfl) (by kernel_rfl) (by kernel_rfl) (by kernel_rfl) (by kernel_rfl) (by kernel_rfl)
def b5w (n : Nat) : Hints I where
 tds := fun i => (asc [] i).getD []
 spl := fun i => (asc [] i).getD []
 pre := fun i => (asc [] i).getD []
 join := asc []
 loop := asc []
 keep := asc []
def a8F (n : Nat) : Row I := ⟨63, [.d (.dat 28)], [.k (.d (.bool))], a7w n⟩
theorem b5n (n : Nat) : y4 Go.Proofs.Tryz.prog (a8F n) :=
 j8 z7 (y9 (es := [j6 tb (a7t n)]) ⟨z8 z7 (b1M n), trivial⟩ 3) mixed 6 (fn := Go.Proofs.Tryz.f63) (cd := v8 Go.Proofs.Tryz.f63) (H := (b5w n)) (rl := [.tmp 2]) Go.Proofs.Tryz.func63 (by kernel_rfl) (by kernel_rfl) (by kernel_rfl) (by kernel_rfl) (by kernel_rfl) (by kernel_rfl) (by kernel_rfl)
def b60 (n : Nat) : Hints I where
 tds := fun i => (asc [] i).getD []
 spl := fun i => (asc [] i).getD []
 pre := fun i => (asc [] i).getD []
 join := asc []
 loop := asc []
 keep := asc []
def a9y (n : Nat) : Row I := ⟨34, [.d (.dat 30)], [.k (.d (.bool))], b2S n⟩
theorem b6E (n : Nat) : y4 Go.Proofs.Tryz.prog (a9y n) :=
 j8 z7 (y9 (es := [j6 tb (a1Z), j6 tb (a8F n)]) ⟨z8 z7 a57, ⟨z8 z7 (b5n n), trivial⟩⟩ 3) mixed 20 (fn := Go.Proofs.Tryz.f34) (cd := v8 Go.Proofs.Tryz.f34) (H := (b60 n)) (rl := [.tmp 2]) Go.Proofs.Tryz.func34 (by kernel_rfl) (by kernel_rfl) (by kernel_rfl) (by kernel_rfl) (by kernel_rfl) (by kernel_rfl) (by kernel_rfl)
def c1U : Hints I where
 tds := fun i => (asc [] i).getD []
 spl := fun i => (asc [] i).getD []
 pre := fun i => (asc [] i).getD []
 join := asc []
 loop := asc []
 keep := asc []
def b3I : Row I := ⟨110, [.d (.int .i64)], [.k (.d (.int .i64))], b8H⟩
theorem c0P : y4 Go.Proofs.Tryz.prog (b3I) :=
 j8 z7 (y9 (es := []) trivial 3) mixed 14 (fn := Go.Proofs.Tryz.f110) (cd := v8 Go.Proofs.Tryz.f110) (H := c1U) (rl := [.tmp 2]) Go.Proofs.Tryz.func110 (by kernel_rfl) (by kernel_rfl) (by kernel_rfl) (by kernel_rfl) (by kernel_rfl) (by kernel_rfl) (by kernel_rfl)
def a9i : Hints I where
 tds := fun i => (asc [(4, [[], [], [], [1, 2], [1, 2, 3], [0, 1, 2, 3, 4]])] i).getD []
 spl := fun i => (asc [] i).getD []
 pre := fun i => (asc [] i).getD []
 join := asc []
 loop := asc [(26, ⟨524080, [], [], [(8, .k (.d (.int .i64)))], [((.exit 0), []), (.ret, [(4, .k (.d (.int .i64)))])], bnd tb (.slot 7) 1⟩)]
 keep := asc []
def a4z : Row I := ⟨171, [.d (.sl 114), .d (.dat 114)], [.k (.d (.int .i64))], a21⟩
theorem a9g : y4 Go.Proofs.Tryz.prog (a4z) :=
 j8 z7 (y9 (es := []) trivial 3) mixed 19 (fn := Go.Proofs.Tryz.f171) (cd := v8 Go.Proofs.Tryz.f171) (H := a9i) (rl := [.tmp 4]) Go.Proofs.Tryz.func171 (by kernel_rfl) (by kernel_rfl) (by kernel_rfl) (by kernel_rfl) (by kernel_rfl) (by kernel_rfl) (by kernel_rfl)
def a8k : Hints I where
 tds := fun i => (asc [] i).getD []
 spl := fun i => (asc [] i).getD []
 pre := fun i => (asc [] i).getD []
 join := asc []
 loop := asc []
 keep := asc []
def a3E : Row I := ⟨147, [.d (.sl 114), .d (.dat 114)], [.k (.d (.bool))], a02⟩
theorem a8g : y4 Go.Proofs.Tryz.prog (a3E) :=
 j8 z7 (y9 (es := [j6 tb (a4z)]) ⟨z8 z7 a9g, trivial⟩ 3) mixed 9 (fn := Go.Proofs.Tryz.f147) (cd := v8 Go.Proofs.Tryz.f147) (H := a8k) (rl := [.tmp 4]) Go.Proofs.Tryz.func147 (by kernel_rfl) (by kernel_rfl) (by kernel_rfl) (by kernel_rfl) (by kernel_rfl) (by kernel_rfl) (by kernel_rfl)
def c6w : Hints I where
 tds := fun i => (asc [] i).getD []
 spl := fun i => (asc [] i).getD []
 pre := fun i => (asc [] i).getD []
 join := asc []
 loop := asc [(26, ⟨2096208, [], [], [(10, .k (.d (.int .i64)))], [((.exit 0), []), (.ret, [(4, .k (.d (.int .i64)))])], bnd tb (.slot 9) 1⟩)]
 keep := asc []
def b8J : Row I := ⟨148, [.d (.dat 72), .d (.dat 114)], [.k (.d (.int .i64))], b8c⟩
theorem c4t : y4 Go.Proofs.Tryz.prog (b8J) :=
 j8 z7 (y9 (es := []) trivial 3) mixed 26 (fn := Go.Proofs.Tryz.f148) (cd := v8 Go.Proofs.Tryz.f148) (H := c6w) (rl := [.tmp 4]) Go.Proofs.Tryz.func148 (by kernel_rfl) (by kernel_rfl) (by kernel_rfl) (by kernel_rfl) (by kernel_rfl) (by kernel_rfl) (by kernel_rfl)
def b0B : Hints I where
 tds := fun i => (asc [] i).getD []
 spl := fun i => (asc [] i).getD []
 pre := fun i => (asc [] i).getD []
 join := asc []
 loop := asc [(26, ⟨524080, [], [], [(8, .k (.d (.int .i64)))], [((.exit 0), []), (.ret, [(4, .k (.d (.int .i64)))])], bnd tb (.slot 7) 1⟩)]
 keep := asc []
def a5a : Row I := ⟨149, [.d (.sl 9), .d (.str)], [.k (.d (.int .i64))], a3J⟩
theorem a92 : y4 Go.Proofs.Tryz.prog (a5a) :=
 j8 z7 (y9 (es := []) trivial 3) mixed 19 (fn := Go.Proofs.Tryz.f149) (cd := v8 Go.Proofs.Tryz.f149) (H := b0B) (rl := [.tmp 4]) Go.Proofs.Tryz.func149 (by kernel_rfl) (by kernel_rfl) (by kernel_rfl) (by kernel_rfl) (by kernel_rfl) (by kernel_rfl) (by kernel_rfl)
def a9h : Hints I where
 tds := fun i => (asc [] i).getD []
 spl := fun i => (asc [] i).getD []
 pre := fun i => (asc [] i).getD []
 join := asc []
 loop := asc []
 keep := asc []
def a4d : Row I := ⟨115, [.d (.sl 9), .d (.str)], [.k (.d (.bool))], a1o⟩
theorem a8M : y4 Go.Proofs.Tryz.prog (a4d) :=
 j8 z7 (y9 (es := [j6 tb (a5a)]) ⟨z8 z7 a92, trivial⟩ 3) mixed 9 (fn := Go.Proofs.Tryz.f115) (cd := v8 Go.Proofs.Tryz.f115) (H := a9h) (rl := [.tmp 4]) Go.Proofs.Tryz.func115 (by kernel_rfl) (by kernel_rfl) (by kernel_rfl) (by kernel_rfl) (by kernel_rfl) (by kernel_rfl) (by kernel_rfl)
def c40 (n : Nat) : Hints I where
 tds := fun i => (asc [(6, [[], [], [], [], [2, 3], [2, 3, 4], [0, 1, 2, 3, 4, 5], [0, 1, 2, 3, 4, 5, 6]])] i).getD []
 spl := fun i => (asc [] i).getD []
 pre := fun i => (asc [] i).getD []
 join := asc []
 loop := asc [(58, ⟨1073676736, [], [], [(16, .k (.d (.int .i64)))], [((.exit 0), []), (.ret, [(6, .k (.d (.bool)))])], bnd tb (.slot 15) 1⟩)]
 keep := asc []
def a1v (n : Nat) : Row I := ⟨65, [.d (.sl 28), .d (.dat 36), .d (.sl 3)], [.k (.d (.bool))], a5r n⟩
def b6t (n : Nat) : Hints I where
 tds := fun i => (asc [(2, [[], [0], [], [], [3], [], [3, 4, 5], [0, 1, 2, 3, 4, 5, 6], [0, 1, 2, 3, 4, 5, 6, 7], [0, 1, 2, 3, 4, 5, 6, 7, 8], [0, 1, 2, 3, 4, 5, 6, 7, 8, 9], [0, 1, 2, 3, 4, 5, 6, 7, 8, 9, 10], [0, 1, 2, 3, 4, 5, 6, 7, 8, 9, 10, 11], [0, 1, 2, 3, 4, 5, 6, 7, 8, 9, 10, 11, 12], [0, 1, 2, 3, 4, 5, 6, 7, 8, 9, 10, 11, 12, 13], [0, 1, 2, 3, 4, 5, 6, 7, 8, 9, 10, 11, 12, 13, 14], [0, 1, 2, 3, 4, 5, 6, 7, 8, 9, 10, 11, 12, 13], [0, 1, 2, 3, 4, 5, 6, 7, 8, 9, 10, 11, 12, 13], [0, 1, 2, 3, 4, 5, 6, 7, 8, 9, 10, 11, 12, 13, 17], [0, 1, 2, 3, 4, 5, 6, 7, 8, 9, 10, 11, 12, 13], [0, 1, 2, 3, 4, 5, 6, 7, 8, 9, 10, 11, 12, 13, 17, 18, 19], [0, 1, 2, 3, 4, 5, 6, 7, 8, 9, 10, 11, 12, 13, 17, 18, 19, 20], [0, 1, 2, 3, 4, 5, 6, 7, 8, 9, 10, 11, 12, 13, 14, 15, 16, 17, 18, 19, 20, 21], [0, 1, 2, 3, 4, 5, 6, 7, 8, 9, 10, 11, 12, 13, 14, 15, 16, 17, 18, 19, 20, 21, 22], [0, 1, 2, 3, 4, 5, 6, 7, 8, 9, 10, 11, 12, 13, 14, 15, 16, 17, 18, 19, 20, 21, 22, 23], [0, 1, 2, 3, 4, 5, 6, 7, 8, 9, 10, 11, 12, 13, 14, 15, 16, 17, 18, 19, 20, 21, 22, 23, 24]])] i).getD []
 spl := fun i => (asc [] i).getD []
 pre := fun i => (asc [] i).getD []
 join := asc []
 loop := asc []
 keep := asc []
def J2 (n : Nat) : Row I := ⟨35, [.d (.dat 30), .d (.dat 36), .d (.dat 72)], [.k (.d (.bool))], V4 n⟩
def b7e (n : Nat) : Hints I where
 tds := fun i => (asc [] i).getD []
 spl := fun i => (asc [] i).getD []
 pre := fun i => (asc [] i).getD []
 join := asc []
 loop := asc [(58, ⟨536346944, [], [], [(19, .k (.d (.int .i64)))], [((.exit 0), []), (.ret, [(6, .k (.d (.bool)))])], bnd tb (.slot 18) 1⟩)]
 keep := asc []
def V5 (n : Nat) : Row I := ⟨112, [.d (.dat 28), .d (.dat 36), .d (.dat 72)], [.k (.d (.bool))], a0x n⟩
def c42 (n : Nat) : Hints I where
 tds := fun i => (asc [(17, [[], [0], [], [2], [2, 3], [0, 1, 2, 3, 4], [0, 1, 2, 3, 4, 5]]), (31, [[], [], [], [2], [2, 3], [2, 3, 4], [0, 1, 2, 3, 4, 5], [0, 1, 2, 3, 4, 5, 6], [0, 1, 2, 3, 4, 5, 6, 7]])] i).getD []
 spl := fun i => (asc [] i).getD []
 pre := fun i => (asc [] i).getD []
 join := asc [(60413, ⟨144115188075855872000, [], [], [(.normal, [(60, .k (.d (.bool)))])]⟩)]
 loop := asc []
 keep := asc []
def V1 (n : Nat) : Row I := ⟨66, [.d (.dat 28), .d (.dat 36), .d (.int .i64)], [.k (.d (.bool))], a0e n⟩
def c2K (n : Nat) : Hints I where
 tds := fun i => (asc [] i).getD []
 spl := fun i => (asc [] i).getD []
 pre := fun i => (asc [] i).getD []
 join := asc []
 loop := asc []
 keep := asc []
def a04 (n : Nat) : Row I := ⟨113, [.d (.int .i64), .var 28 (.k (.d (.dat 28))) false, .var 36 (.k (.d (.dat 36))) false], [.k (.d (.bool))], a3c n⟩
def c2Z (n : Nat) : Hints I where
 tds := fun i => (asc [] i).getD []
 spl := fun i => (asc [] i).getD []
 pre := fun i => (asc [] i).getD []
 join := asc []
 loop := asc []
 keep := asc []
def a03 (n : Nat) : Row I := ⟨114, [.d (.int .i64), .var 28 (.k (.d (.dat 28))) false, .var 36 (.k (.d (.dat 36))) false], [.k (.d (.bool))], a3m n⟩
def c1S (n : Nat) : Hints I where
 tds := fun i => (asc [(10, [[], [0], [], [0, 1, 2], [0, 1, 2, 3], [], [], [], [6, 7], [0, 1, 2, 3, 4, 5, 6, 7, 8], [0, 1, 2, 3, 4, 5, 6, 7, 8, 9]])] i).getD []
 spl := fun i => (asc [] i).getD []
 pre := fun i => (asc [] i).getD []
 join := asc []
 loop := asc [(26, ⟨1073725760, [], [], [(14, .k (.d (.int .i64)))], [((.exit 0), []), (.ret, [(6, .k (.d (.bool)))])], bnd tb (.slot 13) 1⟩),
  (58, ⟨1125891316909632, [], [], [(33, .k (.d (.int .i64)))], [((.exit 2), []), (.ret, [(6, .k (.d (.bool)))])], bnd tb (.slot 32) 1⟩)]
 keep := asc []
def a0J (n : Nat) : Row I := ⟨111, [.d (.dat 28), .d (.dat 36), .d (.dat 72)], [.k (.d (.bool))], a2j n⟩
theorem c2s (n : Nat) (h_core_all : y4 Go.Proofs.Tryz.prog (a1v n)) (h_core_EntryAllowed : y4 Go.Proofs.Tryz.prog (J2 n)) (h_core_functionHas : y4 Go.Proofs.Tryz.prog (V5 n)) (h_core_Has : y4 Go.Proofs.Tryz.prog (V1 n)) (h_core_Has_1 : y4 Go.Proofs.Tryz.prog (a04 n)) (h_core_Has_2 : y4 Go.Proofs.Tryz.prog (a03 n)) (h_core_mapHas : y4 Go.Proofs.Tryz.prog (a0J n)) : y4 Go.Proofs.Tryz.prog (a1v (n + 1)) :=
 j8 z7 (y9 (es := [j6 tb (V1 n)]) ⟨z8 z7 h_core_Has, trivial⟩ 3) mixed 30 (fn := Go.Proofs.Tryz.f65) (cd := v8 Go.Proofs.Tryz.f65) (H := (c40 n)) (rl := [.tmp 6]) Go.Proofs.Tryz.func65 (by kernel_rfl) (by kernel_rfl) (by kernel_rfl) (by kernel_rfl) (by kernel_rfl) (by kernel_rfl) (by kernel_rfl)
theorem b5k (n : Nat) (h_core_all : y4 Go.Proofs.Tryz.prog (a1v n)) (h_core_EntryAllowed : y4 Go.Proofs.Tryz.prog (J2 n)) (h_core_functionHas : y4 Go.Proofs.Tryz.prog (V5 n)) (h_core_Has : y4 Go.Proofs.Tryz.prog (V1 n)) (h_core_Has_1 : y4 Go.Proofs.Tryz.prog (a04 n)) (h_core_Has_2 : y4 Go.Proofs.Tryz.prog (a03 n)) (h_core_mapHas : y4 Go.Proofs.Tryz.prog (a0J n)) : y4 Go.Proofs.Tryz.prog (J2 (n + 1)) :=
 j8 z7 (y9 (es := [j6 tb (a1v n), j6 tb (V1 n)]) ⟨z8 z7 h_core_all, ⟨z8 z7 h_core_Has, trivial⟩⟩ 3) mixed 37 (fn := Go.Proofs.Tryz.f35) (cd := v8 Go.Proofs.Tryz.f35) (H := (b6t n)) (rl := [.tmp 6]) Go.Proofs.Tryz.func35 (by kernel_rfl) (by kernel_rfl) (by kernel_rfl) (by kernel_rfl) (by kernel_rfl) (by kernel_rfl) (by kernel_rfl)
theorem b5Y (n : Nat) (h_core_all : y4 Go.Proofs.Tryz.prog (a1v n)) (h_core_EntryAllowed : y4 Go.Proofs.Tryz.prog (J2 n)) (h_core_functionHas : y4 Go.Proofs.Tryz.prog (V5 n)) (h_core_Has : y4 Go.Proofs.Tryz.prog (V1 n)) (h_core_Has_1 : y4 Go.Proofs.Tryz.prog (a04 n)) (h_core_Has_2 : y4 Go.Proofs.Tryz.prog (a03 n)) (h_core_mapHas : y4 Go.Proofs.Tryz.prog (a0J n)) : y4 Go.Proofs.Tryz.prog (V5 (n + 1)) :=
 j8 z7 (y9 (es := [j6 tb (J2 n)]) ⟨z8 z7 h_core_EntryAllowed, trivial⟩ 3) mixed 29 (fn := Go.Proofs.Tryz.f112) (cd := v8 Go.Proofs.Tryz.f112) (H := (b7e n)) (rl := [.tmp 6]) Go.Proofs.Tryz.func112 (by kernel_rfl) (by kernel_rfl) (by kernel_rfl) (by kernel_rfl) (by kernel_rfl) (by kernel_rfl) (by kernel_rfl)
theorem c3k (n : Nat) (h_core_all : y4 Go.Proofs.Tryz.prog (a1v n)) (h_core_EntryAllowed : y4 Go.Proofs.Tryz.prog (J2 n)) (h_core_functionHas : y4 Go.Proofs.Tryz.prog (V5 n)) (h_core_Has : y4 Go.Proofs.Tryz.prog (V1 n)) (h_core_Has_1 : y4 Go.Proofs.Tryz.prog (a04 n)) (h_core_Has_2 : y4 Go.Proofs.Tryz.prog (a03 n)) (h_core_mapHas : y4 Go.Proofs.Tryz.prog (a0J n)) : y4 Go.Proofs.Tryz.prog (V1 (n + 1)) :=
 j8 z7 (y9 (es := [j6 tb (b3I), j6 tb (a1v n), j6 tb (a0J n), j6 tb (V5 n), j6 tb (a0k), j6 tb (a04 n), j6 tb (a03 n), j6 tb (V1 n), j6 tb (a4d)]) ⟨z8 z7 c0P, ⟨z8 z7 h_core_all, ⟨z8 z7 h_core_mapHas, ⟨z8 z7 h_core_functionHas, ⟨z8 z7 a1i, ⟨z8 z7 h_core_Has_1, ⟨z8 z7 h_core_Has_2, ⟨z8 z7 h_core_Has, ⟨z8 z7 a8M, trivial⟩⟩⟩⟩⟩⟩⟩⟩⟩ 3) mixed 151 (fn := Go.Proofs.Tryz.f66) (cd := v8 Go.Proofs.Tryz.f66) (H := (c42 n)) (rl := [.tmp 6]) Go.Proofs.Tryz.func66 (by kernel_rfl) (by kernel_rfl) (by kernel_rfl) (by kernel_rfl) (by kernel_rfl) (by kernel_rfl) (by kernel_rfl)
theorem c1f (n : Nat) (h_core_all : y4 Go.Proofs.Tryz.prog (a1v n)) (h_core_EntryAllowed : y4 Go.Proofs.Tryz.prog (J2 n)) (h_core_functionHas : y4 Go.Proofs.Tryz.prog (V5 n)) (h_core_Has : y4 Go.Proofs.Tryz.prog (V1 n)) (h_core_Has_1 : y4 Go.Proofs.Tryz.prog (a04 n)) (h_core_Has_2 : y4 Go.Proofs.Tryz.prog (a03 n)) (h_core_mapHas : y4 Go.Proofs.Tryz.prog (a0J n)) : y4 Go.Proofs.Tryz.prog (a04 (n + 1)) :=
 j8 z7 (y9 (es := [j6 tb (V1 n)]) ⟨z8 z7 h_core_Has, trivial⟩ 3) mixed 9 (fn := Go.Proofs.Tryz.f113) (cd := v8 Go.Proofs.Tryz.f113) (H := (c2K n)) (rl := [.tmp 4]) Go.Proofs.Tryz.func113 (by kernel_rfl) (by kernel_rfl) (by kernel_rfl) (by kernel_rfl) (by kernel_rfl) (by kernel_rfl) (by kernel_rfl)
theorem c1a (n : Nat) (h_core_all : y4 Go.Proofs.Tryz.prog (a1v n)) (h_core_EntryAllowed : y4 Go.Proofs.Tryz.prog (J2 n)) (h_core_functionHas : y4 Go.Proofs.Tryz.prog (V5 n)) (h_core_Has : y4 Go.Proofs.Tryz.prog (V1 n)) (h_core_Has_1 : y4 Go.Proofs.Tryz.prog (a04 n)) (h_core_Has_2 : y4 Go.Proofs.Tryz.prog (a03 n)) (h_core_mapHas : y4 Go.Proofs.Tryz.prog (a0J n)) : y4 Go.Proofs.Tryz.prog (a03 (n + 1)) :=
 j8 z7 (y9 (es := [j6 tb (V1 n)]) ⟨z8 z7 h_core_Has, trivial⟩ 3) mixed 10 (fn := Go.Proofs.Tryz.f114) (cd := v8 Go.Proofs.Tryz.f114) (H := (c2Z n)) (rl := [.tmp 4]) Go.Proofs.Tryz.func114 (by kernel_rfl) (by kernel_rfl) (by kernel_rfl) (by kernel_rfl) (by kernel_rfl) (by kernel_rfl) (by kernel_rfl)
theorem b9P (n : Nat) (h_core_all : y4 Go.Proofs.Tryz.prog (a1v n)) (h_core_EntryAllowed : y4 Go.Proofs.Tryz.prog (J2 n)) (h_core_functionHas : y4 Go.Proofs.Tryz.prog (V5 n)) (h_core_Has : y4 Go.Proofs.Tryz.prog (V1 n)) (h_core_Has_1 : y4 Go.Proofs.Tryz.prog (a04 n)) (h_core_Has_2 : y4 Go.Proofs.Tryz.prog (a03 n)) (h_core_mapHas : y4 Go.Proofs.Tryz.prog (a0J n)) : y4 Go.Proofs.Tryz.prog (a0J (n + 1)) :=
 j8 z7 (y9 (es := [j6 tb (a3E), j6 tb (b8J), j6 tb (V1 n)]) ⟨z8 z7 a8g, ⟨z8 z7 c4t, ⟨z8 z7 h_core_Has, trivial⟩⟩⟩ 3) mixed 50 (fn := Go.Proofs.Tryz.f111) (cd := v8 Go.Proofs.Tryz.f111) (H := (c1S n)) (rl := [.tmp 6]) Go.Proofs.Tryz.func111 (by kernel_rfl) (by kernel_rfl) (by kernel_rfl) (by kernel_rfl) (by kernel_rfl) (by kernel_rfl) (by kernel_rfl)
theorem a9W : ∀ n : Nat, y4 Go.Proofs.Tryz.prog (a1v n) /\ y4 Go.Proofs.Tryz.prog (J2 n) /\ y4 Go.Proofs.Tryz.prog (V5 n) /\ y4 Go.Proofs.Tryz.prog (V1 n) /\ y4 Go.Proofs.Tryz.prog (a04 n) /\ y4 Go.Proofs.Tryz.prog (a03 n) /\ y4 Go.Proofs.Tryz.prog (a0J n)
 | 0 => ⟨Q9 (by kernel_rfl), Q9 (by kernel_rfl), Q9 (by kernel_rfl), Q9 (by kernel_rfl), Q9 (by kernel_rfl), Q9 (by kernel_rfl), Q9 (by kernel_rfl)⟩
 | n + 1 => by
   obtain ⟨h0, h1, h2, h3, h4, h5, h6⟩ := a9W n
   exact ⟨c2s n h0 h1 h2 h3 h4 h5 h6, b5k n h0 h1 h2 h3 h4 h5 h6, b5Y n h0 h1 h2 h3 h4 h5 h6, c3k n h0 h1 h2 h3 h4 h5 h6, c1f n h0 h1 h2 h3 h4 h5 h6, c1a n h0 h1 h2 h3 h4 h5 h6, b9P n h0 h1 h2 h3 h4 h5 h6⟩
theorem b5S (n : Nat) : y4 Go.Proofs.Tryz.prog (J2 n) := (a9W n).2.1
theorem b8K (n : Nat) : y4 Go.Proofs.Tryz.prog (V1 n) := (a9W n).2.2.2.1
def b9Q (n : Nat) : Hints I where
 tds := fun i => (asc [] i).getD []
 spl := fun i => (asc [] i).getD []
 pre := fun i => (asc [] i).getD []
 join := asc []
 loop := asc [(58, ⟨2251799746577216, [], [], [(26, .k (.d (.int .i64)))], [((.exit 0), []), (.ret, [(6, .k (.d (.bool)))])], bnd tb (.slot 25) 1⟩)]
 keep := asc []
def b1K (n : Nat) : Row I := ⟨12, [.d (.dat 30), .d (.dat 36), .d (.sl 3)], [.k (.d (.bool))], b1h n⟩
theorem b9s (n : Nat) : y4 Go.Proofs.Tryz.prog (b1K n) :=
 j8 z7 (y9 (es := [j6 tb (a2R n), j6 tb (a6Z), j6 tb (a9y n), j6 tb (J2 n)]) ⟨z8 z7 (a5j n), ⟨z8 z7 b05, ⟨z8 z7 (b6E n), ⟨z8 z7 (b5S n), trivial⟩⟩⟩⟩ 3) mixed 51 (fn := Go.Proofs.Tryz.f12) (cd := v8 Go.Proofs.Tryz.f12) (H := (b9Q n)) (rl := [.tmp 6]) Go.Proofs.Tryz.func12 (by kernel_rfl) (by kernel_rfl) (by kernel_rfl) (by kernel_rfl) (by kernel_rfl) (by kernel_rfl) (by kernel_rfl)
def b5Z (n : Nat) : Hints I where
 tds := fun i => (asc [] i).getD []
 spl := fun i => (asc [] i).getD []
 pre := fun i => (asc [] i).getD []
 join := asc []
 loop := asc []
 keep := asc []
def a8l (n : Nat) : Row I := ⟨10, [], [.k (.d (.bool))], a1t n⟩
theorem b4M (n : Nat) : y4 Go.Proofs.Tryz.prog (a8l n) :=
 j8 z7 (y9 (es := [j6 tb (a05), j6 tb (a9O n), j6 tb (b1K n)]) ⟨z8 z7 a18, ⟨z8 z7 (b4S n), ⟨z8 z7 (b9s n), trivial⟩⟩⟩ 3) mixed 37 (fn := Go.Proofs.Tryz.f10) (cd := v8 Go.Proofs.Tryz.f10) (H := (b5Z n)) (rl := [.tmp 0]) Go.Proofs.Tryz.func10 (by kernel_rfl) (by kernel_rfl) (by kernel_rfl) (by kernel_rfl) (by kernel_rfl) (by kernel_rfl) (by kernel_rfl)
def b2d : Hints I where
 tds := fun i => (asc [(1, [[], [0], [0, 1], [0, 1, 2], [0, 1, 2, 3], [0, 1, 2, 3, 4], [0, 1, 2, 3, 4, 5], [0, 1, 2], [0, 1, 2, 7], [0, 1, 2, 7, 8], [0, 1, 2, 7, 8, 9], [0, 1, 2, 7, 8, 9, 10], [0, 1, 2, 3, 4, 5, 6, 7, 8, 9, 10, 11], [0, 1, 2, 3, 4, 5, 6, 7, 8, 9, 10, 11, 12]]), (3, [[], [0], [0, 1], [0, 1, 2], [], [4], [4, 5], [4, 5, 6], [0, 1, 2, 3, 4, 5, 6, 7], [0, 1, 2, 3, 4, 5, 6, 7, 8], [], [0, 1, 2, 3, 4, 5, 6, 7, 8, 9, 10], [0, 1, 2, 3, 4, 5, 6, 7, 8, 9, 10, 11]])] i).getD []
 spl := fun i => (asc [] i).getD []
 pre := fun i => (asc [] i).getD []
 join := asc []
 loop := asc []
 keep := asc []
def w9 : Row I := ⟨30, [.var 76 (.k (.d (.dat 76))) true, .d (.int .i64)], [.k (.d (.int .i64))], j0⟩
theorem Z3 : y4 Go.Proofs.Tryz.prog (w9) :=
 j8 z7 (y9 (es := []) trivial 3) mixed 46 (fn := Go.Proofs.Tryz.f30) (cd := v8 Go.Proofs.Tryz.f30) (H := b2d) (rl := [.tmp 4]) Go.Proofs.Tryz.func30 (by kernel_rfl) (by kernel_rfl) (by kernel_rfl) (by kernel_rfl) (by kernel_rfl) (by kernel_rfl) (by kernel_rfl)
def a9Z : Hints I where
 tds := fun i => (asc [] i).getD []
 spl := fun i => (asc [] i).getD []
 pre := fun i => (asc [] i).getD []
 join := asc []
 loop := asc []
 keep := asc []
def a0l : Row I := ⟨89, [.var 76 (.k (.d (.dat 76))) true], [.k (.d (.str))], V9⟩
theorem a1g : y4 Go.Proofs.Tryz.prog (a0l) :=
 j8 z7 (y9 (es := [j6 tb (w9)]) ⟨z8 z7 Z3, trivial⟩ 3) mixed 8 (fn := Go.Proofs.Tryz.f89) (cd := v8 Go.Proofs.Tryz.f89) (H := a9Z) (rl := [.tmp 2]) Go.Proofs.Tryz.func89 (by kernel_rfl) (by kernel_rfl) (by kernel_rfl) (by kernel_rfl) (by kernel_rfl) (by kernel_rfl) (by kernel_rfl)
def b1U : Hints I where
 tds := fun i => (asc [] i).getD []
 spl := fun i => (asc [] i).getD []
 pre := fun i => (asc [] i).getD []
 join := asc []
 loop := asc []
 keep := asc []
def a0M : Row I := ⟨90, [.var 76 (.k (.d (.dat 76))) true], [.k (.d (.str))], a0o⟩
theorem a1V : y4 Go.Proofs.Tryz.prog (a0M) :=
 j8 z7 (y9 (es := [j6 tb (w9)]) ⟨z8 z7 Z3, trivial⟩ 3) mixed 8 (fn := Go.Proofs.Tryz.f90) (cd := v8 Go.Proofs.Tryz.f90) (H := b1U) (rl := [.tmp 2]) Go.Proofs.Tryz.func90 (by kernel_rfl) (by kernel_rfl) (by kernel_rfl) (by kernel_rfl) (by kernel_rfl) (by kernel_rfl) (by kernel_rfl)
def b1k : Hints I where
 tds := fun i => (asc [] i).getD []
 spl := fun i => (asc [] i).getD []
 pre := fun i => (asc [] i).getD []
 join := asc []
 loop := asc []
 keep := asc []
def a29 : Row I := ⟨91, [.var 76 (.k (.d (.dat 76))) true], [.k (.d (.str))], a0H⟩
theorem a6j : y4 Go.Proofs.Tryz.prog (a29) :=
 j8 z7 (y9 (es := [j6 tb (w9)]) ⟨z8 z7 Z3, trivial⟩ 3) mixed 8 (fn := Go.Proofs.Tryz.f91) (cd := v8 Go.Proofs.Tryz.f91) (H := b1k) (rl := [.tmp 2]) Go.Proofs.Tryz.func91 (by kernel_rfl) (by kernel_rfl) (by kernel_rfl) (by kernel_rfl) (by kernel_rfl) (by kernel_rfl) (by kernel_rfl)
def b0e : Hints I where
 tds := fun i => (asc [] i).getD []
 spl := fun i => (asc [] i).getD []
 pre := fun i => (asc [] i).getD []
 join := asc []
 loop := asc [(28, ⟨16776706, [], [(0, .k (.d (.dat 76)))], [(1, .k (.d (.int .i64))), (9, .k (.row 3 false))], [((.exit 0), [(9, .k (.row 3 false))])], bnd tb (.slot 1) 2⟩)]
 keep := asc []
def a5i : Row I := ⟨92, [.var 76 (.k (.d (.dat 76))) true, .d (.int .i64), .d (.int .i64), .d (.int .i64)], [.k (.row 3 false)], w7⟩
theorem a90 : y4 Go.Proofs.Tryz.prog (a5i) :=
 j8 z7 (y9 (es := [j6 tb (w9)]) ⟨z8 z7 Z3, trivial⟩ 3) mixed 25 (fn := Go.Proofs.Tryz.f92) (cd := v8 Go.Proofs.Tryz.f92) (H := b0e) (rl := [.tmp 8]) Go.Proofs.Tryz.func92 (by kernel_rfl) (by kernel_rfl) (by kernel_rfl) (by kernel_rfl) (by kernel_rfl) (by kernel_rfl) (by kernel_rfl)
def b0C : Hints I where
 tds := fun i => (asc [(7, [[], [0], [], [], [2, 3], [2, 3, 4], [], [], [6, 7], [], [6, 7, 8, 9], [6, 7, 8, 9, 10], [2, 3, 4, 5, 6, 7, 8, 9, 10, 11], [2, 3, 4, 5, 6, 7, 8, 9, 10, 11, 12], [0, 1, 2, 3, 4, 5, 6, 7, 8, 9, 10, 11, 12, 13], [0, 1, 2, 3, 4, 5, 6, 7, 8, 9, 10, 11, 12, 13, 14], [0, 1, 2, 3, 4, 5, 6, 7, 8, 9, 10, 11, 12, 13, 14, 15]])] i).getD []
 spl := fun i => (asc [] i).getD []
 pre := fun i => (asc [] i).getD []
 join := asc [(978, ⟨8796076244992, [], [(0, .k (.d (.dat 76))), (5, .lvs [.d (.int .i64), .d (.int .i64), .d (.int .i64), .d (.str), .row 3 false, .row 132 false, .d (.int .i64), .d (.int .i64)])], [(.normal, [])]⟩)]
 loop := asc [(122, ⟨8796091973760, [6], [(0, .k (.d (.dat 76))), (5, .lvs [.d (.int .i64), .d (.int .i64), .d (.int .i64), .d (.str), .row 3 false, .row 132 false, .d (.int .i64), .d (.int .i64)])], [(7, .k (.d (.int .i64)))], [((.exit 0), [])], bnd tb (.cst 3) 1⟩)]
 keep := asc []
def a5g : Row I := ⟨93, [.var 76 (.k (.d (.dat 76))) true, .d (.int .i64)], [.k (.d (.dat 72))], a1X⟩
theorem a9Y : y4 Go.Proofs.Tryz.prog (a5g) :=
 j8 z7 (y9 (es := [j6 tb (w9)]) ⟨z8 z7 Z3, trivial⟩ 3) mixed 44 (fn := Go.Proofs.Tryz.f93) (cd := v8 Go.Proofs.Tryz.f93) (H := b0C) (rl := [.cell 4 72]) Go.Proofs.Tryz.func93 (by kernel_rfl) (by kernel_rfl) (by kernel_rfl) (by kernel_rfl) (by kernel_rfl) (by kernel_rfl) (by kernel_rfl)
def b2n : Hints I where
 tds := fun i => (asc [(8, [[], [], [0, 1], [0, 1, 2], [], [], [], [], [7], [6, 7, 8], [5, 6, 7, 8, 9], [4, 5, 6, 7, 8, 9, 10], [4, 5, 6, 7, 8, 9, 10, 11], [0, 1, 2, 3, 4, 5, 6, 7, 8, 9, 10, 11, 12], [0, 1, 2, 3, 4, 5, 6, 7, 8, 9, 10, 11, 12, 13]])] i).getD []
 spl := fun i => (asc [] i).getD []
 pre := fun i => (asc [] i).getD []
 join := asc [(29, ⟨128, [], [], [(.normal, [(7, .k (.d (.int .i64)))])]⟩),
  (32243709, ⟨47223664828696452136960, [], [], [(.normal, [(73, .k (.d (.bool)))])]⟩),
  (2063597565, ⟨49517601571415210995964968960, [], [], [(.normal, [(93, .k (.d (.bool)))])]⟩)]
 loop := asc []
 keep := asc []
def a6h : Row I := ⟨54, [.var 76 (.k (.d (.dat 76))) true, .d (.int .i64), .d (.int .i64)], [.k (.d (.dat 72))], a2P⟩
theorem b1y : y4 Go.Proofs.Tryz.prog (a6h) :=
 j8 z7 (y9 (es := [j6 tb (w9), j6 tb (a0l), j6 tb (a0M), j6 tb (a29), j6 tb (a5i), j6 tb (a5g)]) ⟨z8 z7 Z3, ⟨z8 z7 a1g, ⟨z8 z7 a1V, ⟨z8 z7 a6j, ⟨z8 z7 a90, ⟨z8 z7 a9Y, trivial⟩⟩⟩⟩⟩⟩ 3) mixed 128 (fn := Go.Proofs.Tryz.f54) (cd := v8 Go.Proofs.Tryz.f54) (H := b2n) (rl := [.cell 6 72]) Go.Proofs.Tryz.func54 (by kernel_rfl) (by kernel_rfl) (by kernel_rfl) (by kernel_rfl) (by kernel_rfl) (by kernel_rfl) (by kernel_rfl)
def b2g : Hints I where
 tds := fun i => (asc [(6, [[], [0], [], [], [], [2, 3, 4], [2, 3, 4, 5], [0, 1, 2, 3, 4, 5, 6], [0, 1, 2, 3, 4, 5, 6, 7], [0, 1, 2, 3, 4, 5, 6, 7, 8]])] i).getD []
 spl := fun i => (asc [] i).getD []
 pre := fun i => (asc [] i).getD []
 join := asc []
 loop := asc [(122, ⟨16776256, [], [(0, .k (.d (.dat 76))), (5, .lvs [.row 72 false, .d (.int .i64)])], [(6, .k (.d (.int .i64)))], [((.exit 0), [])], bnd tb (.slot 1) 1⟩)]
 keep := asc []
def a6i : Row I := ⟨29, [.var 76 (.k (.d (.dat 76))) true, .d (.int .i64)], [.lvs [.row 72 false, .d (.int .i64)]], a0O⟩
theorem b1v : y4 Go.Proofs.Tryz.prog (a6i) :=
 j8 z7 (y9 (es := [j6 tb (a6h)]) ⟨z8 z7 b1y, trivial⟩ 3) mixed 25 (fn := Go.Proofs.Tryz.f29) (cd := v8 Go.Proofs.Tryz.f29) (H := b2g) (rl := [.cell 4 36]) Go.Proofs.Tryz.func29 (by kernel_rfl) (by kernel_rfl) (by kernel_rfl) (by kernel_rfl) (by kernel_rfl) (by kernel_rfl) (by kernel_rfl)
def b0Q : Hints I where
 tds := fun i => (asc [] i).getD []
 spl := fun i => (asc [] i).getD []
 pre := fun i => (asc [] i).getD []
 join := asc []
 loop := asc []
 keep := asc []
def a5y : Row I := ⟨101, [.var 76 (.k (.d (.dat 76))) true], [.k (.d (.int .i64))], a2f⟩
theorem b0m : y4 Go.Proofs.Tryz.prog (a5y) :=
 j8 z7 (y9 (es := [j6 tb (w9)]) ⟨z8 z7 Z3, trivial⟩ 3) mixed 8 (fn := Go.Proofs.Tryz.f101) (cd := v8 Go.Proofs.Tryz.f101) (H := b0Q) (rl := [.tmp 2]) Go.Proofs.Tryz.func101 (by kernel_rfl) (by kernel_rfl) (by kernel_rfl) (by kernel_rfl) (by kernel_rfl) (by kernel_rfl) (by kernel_rfl)
def b8w : Hints I where
 tds := fun i => (asc [] i).getD []
 spl := fun i => (asc [] i).getD []
 pre := fun i => (asc [] i).getD []
 join := asc []
 loop := asc []
 keep := asc []
def a62 : Row I := ⟨94, [.d (.int .i64)], [.k (.d (.dat 28))], a9v⟩
theorem b1f : y4 Go.Proofs.Tryz.prog (a62) :=
 j8 z7 (y9 (es := []) trivial 3) mixed 5 (fn := Go.Proofs.Tryz.f94) (cd := v8 Go.Proofs.Tryz.f94) (H := b8w) (rl := [.cell 2 28]) Go.Proofs.Tryz.func94 (by kernel_rfl) (by kernel_rfl) (by kernel_rfl) (by kernel_rfl) (by kernel_rfl) (by kernel_rfl) (by kernel_rfl)
def b7C : Hints I where
 tds := fun i => (asc [] i).getD []
 spl := fun i => (asc [] i).getD []
 pre := fun i => (asc [] i).getD []
 join := asc []
 loop := asc []
 keep := asc []
def a6C : Row I := ⟨96, [.d (.str)], [.k (.d (.dat 28))], a6E⟩
theorem a95 : y4 Go.Proofs.Tryz.prog (a6C) :=
 j8 z7 (y9 (es := []) trivial 3) mixed 5 (fn := Go.Proofs.Tryz.f96) (cd := v8 Go.Proofs.Tryz.f96) (H := b7C) (rl := [.cell 2 28]) Go.Proofs.Tryz.func96 (by kernel_rfl) (by kernel_rfl) (by kernel_rfl) (by kernel_rfl) (by kernel_rfl) (by kernel_rfl) (by kernel_rfl)
def b5F : Hints I where
 tds := fun i => (asc [] i).getD []
 spl := fun i => (asc [] i).getD []
 pre := fun i => (asc [] i).getD []
 join := asc []
 loop := asc []
 keep := asc []
def a5t : Row I := ⟨95, [.d (.str)], [.k (.d (.dat 28))], a5f⟩
theorem a8W : y4 Go.Proofs.Tryz.prog (a5t) :=
 j8 z7 (y9 (es := []) trivial 3) mixed 5 (fn := Go.Proofs.Tryz.f95) (cd := v8 Go.Proofs.Tryz.f95) (H := b5F) (rl := [.cell 2 28]) Go.Proofs.Tryz.func95 (by kernel_rfl) (by kernel_rfl) (by kernel_rfl) (by kernel_rfl) (by kernel_rfl) (by kernel_rfl) (by kernel_rfl)
def b8y : Hints I where
 tds := fun i => (asc [] i).getD []
 spl := fun i => (asc [] i).getD []
 pre := fun i => (asc [] i).getD []
 join := asc []
 loop := asc []
 keep := asc []
def a65 : Row I := ⟨97, [.d (.int .i64)], [.k (.d (.dat 28))], a9k⟩
theorem b06 : y4 Go.Proofs.Tryz.prog (a65) :=
 j8 z7 (y9 (es := []) trivial 3) mixed 5 (fn := Go.Proofs.Tryz.f97) (cd := v8 Go.Proofs.Tryz.f97) (H := b8y) (rl := [.cell 2 28]) Go.Proofs.Tryz.func97 (by kernel_rfl) (by kernel_rfl) (by kernel_rfl) (by kernel_rfl) (by kernel_rfl) (by kernel_rfl) (by kernel_rfl)
def b5x : Hints I where
 tds := fun i => (asc [] i).getD []
 spl := fun i => (asc [] i).getD []
 pre := fun i => (asc [] i).getD []
 join := asc []
 loop := asc []
 keep := asc []
def a5k : Row I := ⟨138, [.d (.sl 28)], [.k (.row 28 false)], a1r⟩
theorem a9b : y4 Go.Proofs.Tryz.prog (a5k) :=
 j8 z7 (y9 (es := []) trivial 3) mixed 5 (fn := Go.Proofs.Tryz.f138) (cd := v8 Go.Proofs.Tryz.f138) (H := b5x) (rl := [.tmp 2]) Go.Proofs.Tryz.func138 (by kernel_rfl) (by kernel_rfl) (by kernel_rfl) (by kernel_rfl) (by kernel_rfl) (by kernel_rfl) (by kernel_rfl)
def b6C : Hints I where
 tds := fun i => (asc [] i).getD []
 spl := fun i => (asc [] i).getD []
 pre := fun i => (asc [] i).getD []
 join := asc []
 loop := asc []
 keep := asc []
def a6c : Row I := ⟨102, [.d (.sl 28)], [.k (.d (.dat 28))], a3P⟩
theorem a9R : y4 Go.Proofs.Tryz.prog (a6c) :=
 j8 z7 (y9 (es := [j6 tb (a5k)]) ⟨z8 z7 a9b, trivial⟩ 3) mixed 6 (fn := Go.Proofs.Tryz.f102) (cd := v8 Go.Proofs.Tryz.f102) (H := b6C) (rl := [.cell 2 28]) Go.Proofs.Tryz.func102 (by kernel_rfl) (by kernel_rfl) (by kernel_rfl) (by kernel_rfl) (by kernel_rfl) (by kernel_rfl) (by kernel_rfl)
def b1Z : Hints I where
 tds := fun i => (asc [] i).getD []
 spl := fun i => (asc [] i).getD []
 pre := fun i => (asc [] i).getD []
 join := asc []
 loop := asc []
 keep := asc []
def a1E : Row I := ⟨56, [.var 76 (.k (.d (.dat 76))) true], [.k (.d (.dat 28))], V0⟩
theorem a3M : y4 Go.Proofs.Tryz.prog (a1E) :=
 j8 z7 (y9 (es := [j6 tb (w9), j6 tb (a5y), j6 tb (a62), j6 tb (a0l), j6 tb (a6C), j6 tb (a0M), j6 tb (a5t), j6 tb (a65), j6 tb (a05), j6 tb (a6c)]) ⟨z8 z7 Z3, ⟨z8 z7 b0m, ⟨z8 z7 b1f, ⟨z8 z7 a1g, ⟨z8 z7 a95, ⟨z8 z7 a1V, ⟨z8 z7 a8W, ⟨z8 z7 b06, ⟨z8 z7 a18, ⟨z8 z7 a9R, trivial⟩⟩⟩⟩⟩⟩⟩⟩⟩⟩ 3) mixed 29 (fn := Go.Proofs.Tryz.f56) (cd := v8 Go.Proofs.Tryz.f56) (H := b1Z) (rl := [.cell 2 28]) Go.Proofs.Tryz.func56 (by kernel_rfl) (by kernel_rfl) (by kernel_rfl) (by kernel_rfl) (by kernel_rfl) (by kernel_rfl) (by kernel_rfl)
def b6v : Hints I where
 tds := fun i => (asc [] i).getD []
 spl := fun i => (asc [] i).getD []
 pre := fun i => (asc [] i).getD []
 join := asc []
 loop := asc []
 keep := asc []
def a6b : Row I := ⟨133, [.d (.int .u8)], [.k (.d (.bool))], a2C⟩
theorem a9H : y4 Go.Proofs.Tryz.prog (a6b) :=
 j8 z7 (y9 (es := []) trivial 3) mixed 9 (fn := Go.Proofs.Tryz.f133) (cd := v8 Go.Proofs.Tryz.f133) (H := b6v) (rl := [.tmp 2]) Go.Proofs.Tryz.func133 (by kernel_rfl) (by kernel_rfl) (by kernel_rfl) (by kernel_rfl) (by kernel_rfl) (by kernel_rfl) (by kernel_rfl)
def b6L : Hints I where
 tds := fun i => (asc [] i).getD []
 spl := fun i => (asc [] i).getD []
 pre := fun i => (asc [] i).getD []
 join := asc []
 loop := asc []
 keep := asc []
def a5X : Row I := ⟨134, [.d (.int .u8)], [.k (.d (.bool))], a3Q⟩
theorem a9A : y4 Go.Proofs.Tryz.prog (a5X) :=
 j8 z7 (y9 (es := []) trivial 3) mixed 9 (fn := Go.Proofs.Tryz.f134) (cd := v8 Go.Proofs.Tryz.f134) (H := b6L) (rl := [.tmp 2]) Go.Proofs.Tryz.func134 (by kernel_rfl) (by kernel_rfl) (by kernel_rfl) (by kernel_rfl) (by kernel_rfl) (by kernel_rfl) (by kernel_rfl)
def b5U : Hints I where
 tds := fun i => (asc [] i).getD []
 spl := fun i => (asc [] i).getD []
 pre := fun i => (asc [] i).getD []
 join := asc []
 loop := asc [(58, ⟨4398046248972, [], [], [(3, .k (.d (.int .i64)))], [((.exit 0), []), (.ret, [(2, .k (.d (.bool)))])], bnd tb (.len (.slot 0)) 1⟩)]
 keep := asc []
def a3n : Row I := ⟨82, [.d (.str)], [.k (.d (.bool))], a11⟩
theorem a5Z : y4 Go.Proofs.Tryz.prog (a3n) :=
 j8 z7 (y9 (es := [j6 tb (a6b), j6 tb (a5X)]) ⟨z8 z7 a9H, ⟨z8 z7 a9A, trivial⟩⟩ 3) mixed 42 (fn := Go.Proofs.Tryz.f82) (cd := v8 Go.Proofs.Tryz.f82) (H := b5U) (rl := [.tmp 2]) Go.Proofs.Tryz.func82 (by kernel_rfl) (by kernel_rfl) (by kernel_rfl) (by kernel_rfl) (by kernel_rfl) (by kernel_rfl) (by kernel_rfl)
def b3S : Hints I where
 tds := fun i => (asc [] i).getD []
 spl := fun i => (asc [] i).getD []
 pre := fun i => (asc [] i).getD []
 join := asc []
 loop := asc []
 keep := asc []
def a2y : Row I := ⟨83, [.d (.dat 114)], [.k (.d (.bool))], a1y⟩
theorem a4X : y4 Go.Proofs.Tryz.prog (a2y) :=
 j8 z7 (y9 (es := [j6 tb (a3n)]) ⟨z8 z7 a5Z, trivial⟩ 3) mixed 22 (fn := Go.Proofs.Tryz.f83) (cd := v8 Go.Proofs.Tryz.f83) (H := b3S) (rl := [.tmp 2]) Go.Proofs.Tryz.func83 (by kernel_rfl) (by kernel_rfl) (by kernel_rfl) (by kernel_rfl) (by kernel_rfl) (by kernel_rfl) (by kernel_rfl)
def b6M : Hints I where
 tds := fun i => (asc [] i).getD []
 spl := fun i => (asc [] i).getD []
 pre := fun i => (asc [] i).getD []
 join := asc []
 loop := asc []
 keep := asc []
def a3w : Row I := ⟨86, [.d (.int .i64), .d (.int .i64)], [.k (.d (.int .i64))], a2F⟩
theorem a6r : y4 Go.Proofs.Tryz.prog (a3w) :=
 j8 z7 (y9 (es := []) trivial 3) mixed 11 (fn := Go.Proofs.Tryz.f86) (cd := v8 Go.Proofs.Tryz.f86) (H := b6M) (rl := [.tmp 4]) Go.Proofs.Tryz.func86 (by kernel_rfl) (by kernel_rfl) (by kernel_rfl) (by kernel_rfl) (by kernel_rfl) (by kernel_rfl) (by kernel_rfl)
def b6R : Hints I where
 tds := fun i => (asc [] i).getD []
 spl := fun i => (asc [] i).getD []
 pre := fun i => (asc [] i).getD []
 join := asc []
 loop := asc []
 keep := asc []
def a6D : Row I := ⟨87, [.d (.str), .d (.str)], [.k (.d (.int .i64))], a1s⟩
theorem a93 : y4 Go.Proofs.Tryz.prog (a6D) :=
 j8 z7 (y9 (es := []) trivial 3) mixed 11 (fn := Go.Proofs.Tryz.f87) (cd := v8 Go.Proofs.Tryz.f87) (H := b6R) (rl := [.tmp 4]) Go.Proofs.Tryz.func87 (by kernel_rfl) (by kernel_rfl) (by kernel_rfl) (by kernel_rfl) (by kernel_rfl) (by kernel_rfl) (by kernel_rfl)
def b2j : Hints I where
 tds := fun i => (asc [] i).getD []
 spl := fun i => (asc [] i).getD []
 pre := fun i => (asc [] i).getD []
 join := asc []
 loop := asc []
 keep := asc []
def a0L : Row I := ⟨84, [.d (.dat 114), .d (.dat 114)], [.k (.d (.int .i64))], W5⟩
theorem a1U : y4 Go.Proofs.Tryz.prog (a0L) :=
 j8 z7 (y9 (es := [j6 tb (a3w), j6 tb (a6D)]) ⟨z8 z7 a6r, ⟨z8 z7 a93, trivial⟩⟩ 3) mixed 20 (fn := Go.Proofs.Tryz.f84) (cd := v8 Go.Proofs.Tryz.f84) (H := b2j) (rl := [.tmp 4]) Go.Proofs.Tryz.func84 (by kernel_rfl) (by kernel_rfl) (by kernel_rfl) (by kernel_rfl) (by kernel_rfl) (by kernel_rfl) (by kernel_rfl)
def b8z : Hints I where
 tds := fun i => (asc [(13, [[], [], [1], [1, 2], [0, 1, 2, 3], [0, 1, 2, 3, 4], [0, 1, 2, 3, 4, 5], [0, 1, 2, 3, 4, 5, 6], [0, 1, 2, 3, 4, 5], [0, 1, 2, 3, 4, 5, 6, 7, 8], [0, 1, 2, 3, 4, 5, 6, 7, 8, 9], [0, 1, 2, 3, 4, 5], [0, 1, 2, 3, 4, 5], [0, 1, 2, 3, 4, 5, 11, 12], [0, 1, 2, 3, 4, 5, 11, 12, 13], [0, 1, 2, 3, 4, 5, 6, 7, 8, 9, 10, 11, 12, 13, 14], [0, 1, 2, 3, 4, 5, 6, 7, 8, 9, 10, 11, 12, 13, 14, 15], [0, 1, 2, 3, 4, 5, 6, 7, 8, 9, 10, 11, 12, 13, 14, 15, 16]]), (15, [[], [], [1], [1, 2], [0, 1, 2, 3], [0, 1, 2, 3, 4], [0, 1, 2, 3, 4, 5], [0, 1, 2, 3, 4, 5, 6], [0, 1, 2, 3, 4, 5], [0, 1, 2, 3, 4, 5, 6, 7, 8], [0, 1, 2, 3, 4, 5, 6, 7, 8, 9], [0, 1, 2, 3, 4, 5], [0, 1, 2, 3, 4, 5], [0, 1, 2, 3, 4, 5, 11, 12], [0, 1, 2, 3, 4, 5, 11, 12, 13], [0, 1, 2, 3, 4, 5, 6, 7, 8, 9, 10, 11, 12, 13, 14], [0, 1, 2, 3, 4, 5, 6, 7, 8, 9, 10, 11, 12, 13, 14, 15]]), (17, [[], [0], [], [0, 1, 2], [0, 1, 2, 3], [], [5], [], [5, 6, 7], [0, 1, 2, 3, 4, 5, 6, 7, 8], [0, 1, 2, 3, 4, 5, 6, 7, 8, 9], [0, 1, 2, 3, 4, 5, 6, 7, 8, 9, 10]]), (18, [[], [], [], [1, 2], [1, 2, 3], [1, 2, 3, 4], [0, 1, 2, 3, 4, 5], [], [7], [], [7, 8, 9], [0, 1, 2, 3, 4, 5, 6, 7, 8, 9, 10], [0, 1, 2, 3, 4, 5, 6, 7, 8, 9, 10, 11], [0, 1, 2, 3, 4, 5, 6, 7, 8, 9, 10, 11, 12]]), (19, [[], [], [], [1, 2], [1, 2, 3], [1, 2, 3, 4], [0, 1, 2, 3, 4, 5], [], [7], [], [7, 8, 9], [0, 1, 2, 3, 4, 5, 6, 7, 8, 9, 10], [0, 1, 2, 3, 4, 5, 6, 7, 8, 9, 10, 11], [0, 1, 2, 3, 4, 5, 6, 7, 8, 9, 10, 11, 12]])] i).getD []
 spl := fun i => (asc [] i).getD []
 pre := fun i => (asc [] i).getD []
 join := asc []
 loop := asc [(58, ⟨2147221600, [], [(4, .lvs [.d (.int .i64), .d (.int .i64), .d (.str), .row 28 false, .row 114 false, .row 30 false, .row 9 false])], [(6, .k (.d (.int .i64)))], [((.exit 0), []), (.ret, [(5, .k (.d (.int .i64)))])], bnd tb (.len (.slot 0)) 1⟩),
  (250, ⟨5192296858534827628530492034256672, [7], [(4, .lvs [.d (.int .i64), .d (.int .i64), .d (.str), .row 28 false, .row 114 false, .row 30 false, .row 9 false]), (7, .lvs [.d (.int .i64), .d (.int .i64), .d (.str), .d (.sl 28), .d (.sl 114), .row 30 true, .row 9 true])], [(8, .k (.d (.int .i64)))], [((.exit 2), []), (.ret, [(5, .k (.d (.int .i64)))])], bnd tb (.len (.slot 0)) 1⟩),
  (32036, ⟨288230101273805312, [7], [], [(9, .k (.d (.int .i64)))], [((.exit 4), [(9, .k (.d (.int .i64)))])], bnd tb (.len (.ld 24 (.fld 28 4 (.slot 7)))) 1⟩)]
 keep := asc []
def a64 : Row I := ⟨135, [.d (.sl 114), .d (.sl 28)], [.k (.d (.dat 28)), .k (.d (.int .i64))], a2q⟩
theorem b02 : y4 Go.Proofs.Tryz.prog (a64) :=
 j8 z7 (y9 (es := [j6 tb (a2y), j6 tb (a0L), j6 tb (a5k)]) ⟨z8 z7 a4X, ⟨z8 z7 a1U, ⟨z8 z7 a9b, trivial⟩⟩⟩ 3) mixed 113 (fn := Go.Proofs.Tryz.f135) (cd := v8 Go.Proofs.Tryz.f135) (H := b8z) (rl := [.cell 4 28, .tmp 5]) Go.Proofs.Tryz.func135 (by kernel_rfl) (by kernel_rfl) (by kernel_rfl) (by kernel_rfl) (by kernel_rfl) (by kernel_rfl) (by kernel_rfl)
def b6r : Hints I where
 tds := fun i => (asc [] i).getD []
 spl := fun i => (asc [] i).getD []
 pre := fun i => (asc [] i).getD []
 join := asc []
 loop := asc []
 keep := asc []
def a54 : Row I := ⟨85, [.d (.int .i64), .d (.int .i64)], [.k (.d (.int .i64))], a0E⟩
theorem a9C : y4 Go.Proofs.Tryz.prog (a54) :=
 j8 z7 (y9 (es := [j6 tb (a3w)]) ⟨z8 z7 a6r, trivial⟩ 3) mixed 8 (fn := Go.Proofs.Tryz.f85) (cd := v8 Go.Proofs.Tryz.f85) (H := b6r) (rl := [.tmp 4]) Go.Proofs.Tryz.func85 (by kernel_rfl) (by kernel_rfl) (by kernel_rfl) (by kernel_rfl) (by kernel_rfl) (by kernel_rfl) (by kernel_rfl)
def b5o (n : Nat) : Hints I where
 tds := fun i => (asc [(12, [[], [0], [], [0, 1, 2], [0, 1, 2, 3], [], [5], [], [5, 6, 7], [5, 6, 7, 8], [0, 1, 2, 3, 4, 5, 6, 7, 8, 9], [0, 1, 2, 3, 4, 5, 6, 7, 8, 9, 10]]), (23, [[], [0], [], [0, 1, 2], [0, 1, 2, 3], [], [5], [], [5, 6, 7], [5, 6, 7, 8], [0, 1, 2, 3, 4, 5, 6, 7, 8, 9], [0, 1, 2, 3, 4, 5, 6, 7, 8, 9, 10]]), (31, [[], [0], [], [0, 1, 2], [0, 1, 2, 3], [], [5], [], [5, 6, 7], [5, 6, 7, 8], [0, 1, 2, 3, 4, 5, 6, 7, 8, 9], [0, 1, 2, 3, 4, 5, 6, 7, 8, 9, 10]])] i).getD []
 spl := fun i => (asc [] i).getD []
 pre := fun i => (asc [] i).getD []
 join := asc []
 loop := asc [(506, ⟨151115655394234608910448, [], [], [(5, .k (.d (.int .i64)))], [((.exit 0), []), (.ret, [(4, .k (.d (.int .i64)))])], bnd tb (.len (.ld 24 (.fld 28 4 (.slot 2)))) 1⟩),
  (8186, ⟨1329227361959615758789106311928742672, [], [], [(8, .k (.d (.int .i64)))], [((.exit 2), []), (.ret, [(4, .k (.d (.int .i64)))])], bnd tb (.len (.ld 25 (.fld 28 5 (.slot 2)))) 1⟩),
  (32762, ⟨45671904388519233253803489366408968731082361872, [], [], [(10, .k (.d (.int .i64)))], [((.exit 4), []), (.ret, [(4, .k (.d (.int .i64)))])], bnd tb (.len (.ld 26 (.fld 28 6 (.slot 2)))) 1⟩)]
 keep := asc []
def K9 (n : Nat) : Row I := ⟨53, [.d (.dat 28), .d (.dat 28)], [.k (.d (.int .i64))], a0C n⟩
def b57 (n : Nat) : Hints I where
 tds := fun i => (asc [(6, [[], [], [0, 1], [0, 1, 2], [], [], [4, 5], [4, 5, 6], [0, 1, 2, 3, 4, 5, 6, 7], [0, 1, 2, 3, 4, 5, 6, 7, 8]])] i).getD []
 spl := fun i => (asc [] i).getD []
 pre := fun i => (asc [] i).getD []
 join := asc []
 loop := asc [(58, ⟨34359607408, [], [], [(5, .k (.d (.int .i64)))], [((.exit 0), []), (.ret, [(4, .k (.d (.int .i64)))])], bnd tb (.len (.slot 0)) 1⟩)]
 keep := asc []
def a0w (n : Nat) : Row I := ⟨88, [.d (.sl 28), .d (.sl 28)], [.k (.d (.int .i64))], a3r n⟩
def b0z (n : Nat) : Hints I where
 tds := fun i => (asc [] i).getD []
 spl := fun i => (asc [] i).getD []
 pre := fun i => (asc [] i).getD []
 join := asc []
 loop := asc []
 keep := asc []
def Q0 (n : Nat) : Row I := ⟨70, [.d (.dat 30), .d (.dat 30)], [.k (.d (.int .i64))], Y3 n⟩
theorem b3z (n : Nat) (h_semtyperef1_Compare : y4 Go.Proofs.Tryz.prog (K9 n)) (h_semtyperef1_values : y4 Go.Proofs.Tryz.prog (a0w n)) (h_semtyperef1_CompareEntries : y4 Go.Proofs.Tryz.prog (Q0 n)) : y4 Go.Proofs.Tryz.prog (K9 (n + 1)) :=
 j8 z7 (y9 (es := [j6 tb (a54), j6 tb (a3w), j6 tb (a6D), j6 tb (a0L), j6 tb (a0w n), j6 tb (Q0 n)]) ⟨z8 z7 a9C, ⟨z8 z7 a6r, ⟨z8 z7 a93, ⟨z8 z7 a1U, ⟨z8 z7 h_semtyperef1_values, ⟨z8 z7 h_semtyperef1_CompareEntries, trivial⟩⟩⟩⟩⟩⟩ 3) mixed 155 (fn := Go.Proofs.Tryz.f53) (cd := v8 Go.Proofs.Tryz.f53) (H := (b5o n)) (rl := [.tmp 4]) Go.Proofs.Tryz.func53 (by kernel_rfl) (by kernel_rfl) (by kernel_rfl) (by kernel_rfl) (by kernel_rfl) (by kernel_rfl) (by kernel_rfl)
theorem b3Z (n : Nat) (h_semtyperef1_Compare : y4 Go.Proofs.Tryz.prog (K9 n)) (h_semtyperef1_values : y4 Go.Proofs.Tryz.prog (a0w n)) (h_semtyperef1_CompareEntries : y4 Go.Proofs.Tryz.prog (Q0 n)) : y4 Go.Proofs.Tryz.prog (a0w (n + 1)) :=
 j8 z7 (y9 (es := [j6 tb (a54), j6 tb (K9 n)]) ⟨z8 z7 a9C, ⟨z8 z7 h_semtyperef1_Compare, trivial⟩⟩ 3) mixed 35 (fn := Go.Proofs.Tryz.f88) (cd := v8 Go.Proofs.Tryz.f88) (H := (b57 n)) (rl := [.tmp 4]) Go.Proofs.Tryz.func88 (by kernel_rfl) (by kernel_rfl) (by kernel_rfl) (by kernel_rfl) (by kernel_rfl) (by kernel_rfl) (by kernel_rfl)
theorem a9Q (n : Nat) (h_semtyperef1_Compare : y4 Go.Proofs.Tryz.prog (K9 n)) (h_semtyperef1_values : y4 Go.Proofs.Tryz.prog (a0w n)) (h_semtyperef1_CompareEntries : y4 Go.Proofs.Tryz.prog (Q0 n)) : y4 Go.Proofs.Tryz.prog (Q0 (n + 1)) :=
 j8 z7 (y9 (es := [j6 tb (a0w n), j6 tb (K9 n)]) ⟨z8 z7 h_semtyperef1_values, ⟨z8 z7 h_semtyperef1_Compare, trivial⟩⟩ 3) mixed 26 (fn := Go.Proofs.Tryz.f70) (cd := v8 Go.Proofs.Tryz.f70) (H := (b0z n)) (rl := [.tmp 4]) Go.Proofs.Tryz.func70 (by kernel_rfl) (by kernel_rfl) (by kernel_rfl) (by kernel_rfl) (by kernel_rfl) (by kernel_rfl) (by kernel_rfl)
theorem a3N : ∀ n : Nat, y4 Go.Proofs.Tryz.prog (K9 n) /\ y4 Go.Proofs.Tryz.prog (a0w n) /\ y4 Go.Proofs.Tryz.prog (Q0 n)
 | 0 => ⟨Q9 (by kernel_rfl), Q9 (by kernel_rfl), Q9 (by kernel_rfl)⟩
 | n + 1 => by
   obtain ⟨h0, h1, h2⟩ := a3N n
   exact ⟨b3z n h0 h1 h2, b3Z n h0 h1 h2, a9Q n h0 h1 h2⟩
theorem b4h (n : Nat) : y4 Go.Proofs.Tryz.prog (K9 n) := (a3N n).1
theorem a5w (n : Nat) : y4 Go.Proofs.Tryz.prog (Q0 n) := (a3N n).2.2
def b6J (n : Nat) : Hints I where
 tds := fun i => (asc [] i).getD []
 spl := fun i => (asc [] i).getD []
 pre := fun i => (asc [] i).getD []
 join := asc []
 loop := asc []
 keep := asc []
def a6d (n : Nat) : Row I := ⟨27, [.d (.dat 28), .d (.dat 28)], [.k (.d (.bool))], a3T n⟩
theorem a9s (n : Nat) : y4 Go.Proofs.Tryz.prog (a6d n) :=
 j8 z7 (y9 (es := [j6 tb (K9 n)]) ⟨z8 z7 (b4h n), trivial⟩ 3) mixed 9 (fn := Go.Proofs.Tryz.f27) (cd := v8 Go.Proofs.Tryz.f27) (H := (b6J n)) (rl := [.tmp 4]) Go.Proofs.Tryz.func27 (by kernel_rfl) (by kernel_rfl) (by kernel_rfl) (by kernel_rfl) (by kernel_rfl) (by kernel_rfl) (by kernel_rfl)
def b4N (n : Nat) : Hints I where
 tds := fun i => (asc [(6, [[], [], [1], [0, 1, 2], [0, 1, 2, 3], [0, 1, 2, 3, 4], [0, 1, 2, 3, 4], [0, 1, 2, 3, 4, 5, 6], [0, 1, 2, 3, 4, 5, 6, 7], [0, 1, 2, 3, 4], [0, 1, 2, 3, 4], [0, 1, 2, 3, 4, 9, 10], [0, 1, 2, 3, 4, 9, 10, 11], [0, 1, 2, 3, 4, 5, 6, 7, 8, 9, 10, 11, 12], [0, 1, 2, 3, 4, 5, 6, 7, 8, 9, 10, 11, 12, 13], [0, 1, 2, 3, 4, 5, 6, 7, 8, 9, 10, 11, 12, 13, 14]]), (8, [[], [], [1], [0, 1, 2], [0, 1, 2, 3], [0, 1, 2, 3, 4], [0, 1, 2, 3, 4], [0, 1, 2, 3, 4, 5, 6], [0, 1, 2, 3, 4, 5, 6, 7], [0, 1, 2, 3, 4], [0, 1, 2, 3, 4], [0, 1, 2, 3, 4, 9, 10], [0, 1, 2, 3, 4, 9, 10, 11], [0, 1, 2, 3, 4, 5, 6, 7, 8, 9, 10, 11, 12], [0, 1, 2, 3, 4, 5, 6, 7, 8, 9, 10, 11, 12, 13], [0, 1, 2, 3, 4, 5, 6, 7, 8, 9, 10, 11, 12, 13, 14]]), (10, [[], [], [], [1, 2], [1, 2, 3], [1, 2, 3, 4], [0, 1, 2, 3, 4, 5], [], [], [7, 8], [0, 1, 2, 3, 4, 5, 6, 7, 8, 9], [0, 1, 2, 3, 4, 5, 6, 7, 8, 9, 10]])] i).getD []
 spl := fun i => (asc [] i).getD []
 pre := fun i => (asc [] i).getD []
 join := asc [(466, ⟨4611686018427379816, [], [], [(.normal, [(3, .k (.d (.sl 30)))])]⟩)]
 loop := asc [(58, ⟨4611686018427387896, [], [], [(3, .k (.d (.sl 30))), (4, .k (.d (.int .i64)))], [((.exit 0), [(3, .k (.d (.sl 30)))])], bnd tb (.len (.slot 0)) 1⟩),
  (7460, ⟨2147475488, [3], [], [(5, .k (.d (.int .i64)))], [((.exit 2), [(5, .k (.d (.int .i64)))])], bnd tb (.len (.slot 3)) 1⟩)]
 keep := asc []
def a75 (n : Nat) : Row I := ⟨39, [.bor 30], [.k (.d (.sl 30))], a4O n⟩
theorem b3T (n : Nat) : y4 Go.Proofs.Tryz.prog (a75 n) :=
 j8 z7 (y9 (es := [j6 tb (Q0 n)]) ⟨z8 z7 (a5w n), trivial⟩ 3) mixed 63 (fn := Go.Proofs.Tryz.f39) (cd := v8 Go.Proofs.Tryz.f39) (H := (b4N n)) (rl := [.tmp 2]) Go.Proofs.Tryz.func39 (by kernel_rfl) (by kernel_rfl) (by kernel_rfl) (by kernel_rfl) (by kernel_rfl) (by kernel_rfl) (by kernel_rfl)
def b4A (n : Nat) : Hints I where
 tds := fun i => (asc [] i).getD []
 spl := fun i => (asc [] i).getD []
 pre := fun i => (asc [] i).getD []
 join := asc []
 loop := asc [(58, ⟨70368744161376, [], [(4, .lvs [.d (.int .i64), .d (.int .i64), .d (.str), .row 28 false, .row 114 false, .row 30 false, .row 9 false])], [(6, .k (.d (.int .i64)))], [((.exit 0), []), (.ret, [(5, .k (.d (.int .i64)))])], bnd tb (.len (.slot 1)) 1⟩)]
 keep := asc []
def a4t (n : Nat) : Row I := ⟨14, [.d (.int .i64), .bor 30], [.k (.d (.dat 28)), .k (.d (.int .i64))], a2B n⟩
theorem a77 (n : Nat) : y4 Go.Proofs.Tryz.prog (a4t n) :=
 j8 z7 (y9 (es := [j6 tb (a6d n), j6 tb (a75 n)]) ⟨z8 z7 (a9s n), ⟨z8 z7 (b3T n), trivial⟩⟩ 3) mixed 50 (fn := Go.Proofs.Tryz.f14) (cd := v8 Go.Proofs.Tryz.f14) (H := (b4A n)) (rl := [.cell 4 28, .tmp 5]) Go.Proofs.Tryz.func14 (by kernel_rfl) (by kernel_rfl) (by kernel_rfl) (by kernel_rfl) (by kernel_rfl) (by kernel_rfl) (by kernel_rfl)
def b5W : Hints I where
 tds := fun i => (asc [(6, [[], [], [1], [0, 1, 2], [0, 1, 2, 3], [0, 1, 2, 3, 4], [0, 1, 2, 3, 4], [0, 1, 2, 3, 4, 5, 6], [0, 1, 2, 3, 4, 5, 6, 7], [0, 1, 2, 3, 4], [0, 1, 2, 3, 4], [0, 1, 2, 3, 4, 9, 10], [0, 1, 2, 3, 4, 9, 10, 11], [0, 1, 2, 3, 4, 5, 6, 7, 8, 9, 10, 11, 12], [0, 1, 2, 3, 4, 5, 6, 7, 8, 9, 10, 11, 12, 13]]), (8, [[], [], [1], [0, 1, 2], [0, 1, 2, 3], [0, 1, 2, 3, 4], [0, 1, 2, 3, 4], [0, 1, 2, 3, 4, 5, 6], [0, 1, 2, 3, 4, 5, 6, 7], [0, 1, 2, 3, 4], [0, 1, 2, 3, 4], [0, 1, 2, 3, 4, 9, 10], [0, 1, 2, 3, 4, 9, 10, 11], [0, 1, 2, 3, 4, 5, 6, 7, 8, 9, 10, 11, 12], [0, 1, 2, 3, 4, 5, 6, 7, 8, 9, 10, 11, 12, 13]]), (10, [[], [], [], [1, 2], [1, 2, 3], [1, 2, 3, 4], [0, 1, 2, 3, 4, 5], [], [], [7, 8], [0, 1, 2, 3, 4, 5, 6, 7, 8, 9], [0, 1, 2, 3, 4, 5, 6, 7, 8, 9, 10]])] i).getD []
 spl := fun i => (asc [] i).getD []
 pre := fun i => (asc [] i).getD []
 join := asc [(466, ⟨1152921504606838888, [], [], [(.normal, [(3, .k (.d (.sl 9)))])]⟩)]
 loop := asc [(58, ⟨1152921504606846968, [], [], [(3, .k (.d (.sl 9))), (4, .k (.d (.int .i64)))], [((.exit 0), [(3, .k (.d (.sl 9)))])], bnd tb (.len (.slot 0)) 1⟩),
  (7460, ⟨1073733664, [3], [], [(5, .k (.d (.int .i64)))], [((.exit 2), [(5, .k (.d (.int .i64)))])], bnd tb (.len (.slot 3)) 1⟩)]
 keep := asc []
def a3g : Row I := ⟨50, [.d (.sl 9)], [.k (.d (.sl 9))], a0r⟩
theorem a5S : y4 Go.Proofs.Tryz.prog (a3g) :=
 j8 z7 (y9 (es := []) trivial 3) mixed 61 (fn := Go.Proofs.Tryz.f50) (cd := v8 Go.Proofs.Tryz.f50) (H := b5W) (rl := [.tmp 2]) Go.Proofs.Tryz.func50 (by kernel_rfl) (by kernel_rfl) (by kernel_rfl) (by kernel_rfl) (by kernel_rfl) (by kernel_rfl) (by kernel_rfl)
def b2w : Hints I where
 tds := fun i => (asc [] i).getD []
 spl := fun i => (asc [] i).getD []
 pre := fun i => (asc [] i).getD []
 join := asc []
 loop := asc []
 keep := asc []
def a6K : Row I := ⟨24, [.d (.dat 28), .d (.sl 9)], [.k (.d (.dat 28))], a5q⟩
theorem b2b : y4 Go.Proofs.Tryz.prog (a6K) :=
 j8 z7 (y9 (es := [j6 tb (a3g)]) ⟨z8 z7 a5S, trivial⟩ 3) mixed 9 (fn := Go.Proofs.Tryz.f24) (cd := v8 Go.Proofs.Tryz.f24) (H := b2w) (rl := [.cell 4 28]) Go.Proofs.Tryz.func24 (by kernel_rfl) (by kernel_rfl) (by kernel_rfl) (by kernel_rfl) (by kernel_rfl) (by kernel_rfl) (by kernel_rfl)
def b6U : Hints I where
 tds := fun i => (asc [] i).getD []
 spl := fun i => (asc [] i).getD []
 pre := fun i => (asc [] i).getD []
 join := asc []
 loop := asc []
 keep := asc []
def a9w : Row I := ⟨166, [.d (.dat 28), .d (.dat 28)], [.k (.d (.dat 28))], a6F⟩
theorem b6N : y4 Go.Proofs.Tryz.prog (a9w) :=
 j8 z7 (y9 (es := []) trivial 3) mixed 9 (fn := Go.Proofs.Tryz.f166) (cd := v8 Go.Proofs.Tryz.f166) (H := b6U) (rl := [.cell 4 28]) Go.Proofs.Tryz.func166 (by kernel_rfl) (by kernel_rfl) (by kernel_rfl) (by kernel_rfl) (by kernel_rfl) (by kernel_rfl) (by kernel_rfl)
def b0R : Hints I where
 tds := fun i => (asc [] i).getD []
 spl := fun i => (asc [] i).getD []
 pre := fun i => (asc [] i).getD []
 join := asc [(29, ⟨1048456, [], [(0, .k (.d (.dat 76)))], [(.normal, [(3, .k (.row 9 false))])]⟩)]
 loop := asc []
 keep := asc []
def a2K : Row I := ⟨137, [.var 76 (.k (.d (.dat 76))) true], [.k (.d (.sl 9))], a1b⟩
theorem a5O : y4 Go.Proofs.Tryz.prog (a2K) :=
 j8 z7 (y9 (es := [j6 tb (w9), j6 tb (a29), j6 tb (a3g)]) ⟨z8 z7 Z3, ⟨z8 z7 a6j, ⟨z8 z7 a5S, trivial⟩⟩⟩ 3) mixed 22 (fn := Go.Proofs.Tryz.f137) (cd := v8 Go.Proofs.Tryz.f137) (H := b0R) (rl := [.tmp 2]) Go.Proofs.Tryz.func137 (by kernel_rfl) (by kernel_rfl) (by kernel_rfl) (by kernel_rfl) (by kernel_rfl) (by kernel_rfl) (by kernel_rfl)
def b3f : Hints I where
 tds := fun i => (asc [] i).getD []
 spl := fun i => (asc [] i).getD []
 pre := fun i => (asc [] i).getD []
 join := asc []
 loop := asc []
 keep := asc []
def a6U : Row I := ⟨167, [.var 76 (.k (.d (.dat 76))) true], [.k (.d (.dat 114))], a3l⟩
theorem b1V : y4 Go.Proofs.Tryz.prog (a6U) :=
 j8 z7 (y9 (es := [j6 tb (w9), j6 tb (a0l), j6 tb (a0M)]) ⟨z8 z7 Z3, ⟨z8 z7 a1g, ⟨z8 z7 a1V, trivial⟩⟩⟩ 3) mixed 12 (fn := Go.Proofs.Tryz.f167) (cd := v8 Go.Proofs.Tryz.f167) (H := b3f) (rl := [.cell 2 114]) Go.Proofs.Tryz.func167 (by kernel_rfl) (by kernel_rfl) (by kernel_rfl) (by kernel_rfl) (by kernel_rfl) (by kernel_rfl) (by kernel_rfl)
def b1u (n : Nat) : Hints I where
 tds := fun i => (asc [] i).getD []
 spl := fun i => (asc [] i).getD []
 pre := fun i => (asc [] i).getD []
 join := asc []
 loop := asc []
 keep := asc []
def Q7 (n : Nat) : Row I := ⟨100, [.var 76 (.k (.d (.dat 76))) true, .d (.int .i64)], [.k (.d (.dat 28))], a2s n⟩
def b1B (n : Nat) : Hints I where
 tds := fun i => (asc [(16, [[], [], [1], [0, 1, 2], [], [0, 1, 2, 3, 4], [0, 1, 2, 3, 4, 5]])] i).getD []
 spl := fun i => (asc [(13, [46])] i).getD []
 pre := fun i => (asc [] i).getD []
 join := asc [(29, ⟨5316911983139663491615228241104863200, [], [(0, .k (.d (.dat 76))), (4, .lvs [.d (.int .i64), .d (.int .i64), .d (.str), .d (.sl 28), .d (.sl 114), .d (.sl 30), .d (.sl 9)])], [(.normal, []), (.ret, [])]⟩),
  (7540, ⟨2234207627640832, [], [(0, .k (.d (.dat 76)))], [(.normal, [(50, .k (.d (.bool)))])]⟩),
  (7541, ⟨141863388262170624, [], [(0, .k (.d (.dat 76))), (7, .k (.d (.dat 28)))], [(.normal, [])]⟩)]
 loop := asc [(3754, ⟨549487378528, [], [(0, .k (.d (.dat 76)))], [(5, .k (.row 28 false)), (6, .k (.d (.int .i64)))], [((.exit 1), [(5, .k (.row 28 false))])], bnd tb (.slot 6) 2⟩),
  (120794, ⟨77370071863715549769893632, [], [(0, .k (.d (.dat 76)))], [(8, .k (.row 114 false)), (9, .k (.row 28 false)), (10, .k (.d (.int .i64)))], [((.exit 3), [(8, .k (.row 114 false)), (9, .k (.row 28 false))])], bnd tb (.slot 10) 2⟩),
  (483290, ⟨10382058415869198798257999252078592, [], [(0, .k (.d (.dat 76)))], [(14, .k (.row 30 false)), (15, .k (.d (.int .i64)))], [((.exit 5), [(14, .k (.row 30 false))])], bnd tb (.slot 15) 2⟩)]
 keep := asc []
def a0a (n : Nat) : Row I := ⟨136, [.var 76 (.k (.d (.dat 76))) true, .d (.int .i64)], [.k (.d (.dat 28))], b2x n⟩
def b1w (n : Nat) : Hints I where
 tds := fun i => (asc [(4, [[], [0], [], [], [2, 3], [2, 3, 4], [0, 1, 2, 3, 4, 5], [0, 1, 2, 3, 4, 5, 6], [0, 1, 2, 3, 4, 5, 6, 7]])] i).getD []
 spl := fun i => (asc [] i).getD []
 pre := fun i => (asc [] i).getD []
 join := asc []
 loop := asc [(28, ⟨1048322, [], [(0, .k (.d (.dat 76))), (7, .lvs [.row 28 false, .d (.bool), .d (.int .i64), .d (.int .i64), .d (.str), .row 28 false, .row 114 false, .row 30 false, .row 9 false])], [(1, .k (.d (.int .i64)))], [((.exit 0), [])], bnd tb (.slot 1) 2⟩)]
 keep := asc []
def X9 (n : Nat) : Row I := ⟨168, [.var 76 (.k (.d (.dat 76))) true, .d (.int .i64), .d (.int .i64)], [.k (.d (.dat 30))], b2E n⟩
theorem b0n (n : Nat) (h_semtypebase_Source_Value : y4 Go.Proofs.Tryz.prog (Q7 n)) (h_semtypebase_Source_value : y4 Go.Proofs.Tryz.prog (a0a n)) (h_semtypebase_Source_entry : y4 Go.Proofs.Tryz.prog (X9 n)) : y4 Go.Proofs.Tryz.prog (Q7 (n + 1)) :=
 j8 z7 (y9 (es := [j6 tb (a0a n), j6 tb (a2K)]) ⟨z8 z7 h_semtypebase_Source_value, ⟨z8 z7 a5O, trivial⟩⟩ 3) mixed 13 (fn := Go.Proofs.Tryz.f100) (cd := v8 Go.Proofs.Tryz.f100) (H := (b1u n)) (rl := [.cell 4 28]) Go.Proofs.Tryz.func100 (by kernel_rfl) (by kernel_rfl) (by kernel_rfl) (by kernel_rfl) (by kernel_rfl) (by kernel_rfl) (by kernel_rfl)
theorem b0t (n : Nat) (h_semtypebase_Source_Value : y4 Go.Proofs.Tryz.prog (Q7 n)) (h_semtypebase_Source_value : y4 Go.Proofs.Tryz.prog (a0a n)) (h_semtypebase_Source_entry : y4 Go.Proofs.Tryz.prog (X9 n)) : y4 Go.Proofs.Tryz.prog (a0a (n + 1)) :=
 j8 z7 (y9 (es := [j6 tb (a1E), j6 tb (w9), j6 tb (Q7 n), j6 tb (a6c), j6 tb (a05), j6 tb (a9w), j6 tb (a2K), j6 tb (a6U), j6 tb (a64), j6 tb (X9 n), j6 tb (a4t n)]) ⟨z8 z7 a3M, ⟨z8 z7 Z3, ⟨z8 z7 h_semtypebase_Source_Value, ⟨z8 z7 a9R, ⟨z8 z7 a18, ⟨z8 z7 b6N, ⟨z8 z7 a5O, ⟨z8 z7 b1V, ⟨z8 z7 b02, ⟨z8 z7 h_semtypebase_Source_entry, ⟨z8 z7 (a77 n), trivial⟩⟩⟩⟩⟩⟩⟩⟩⟩⟩⟩ 3) mixed 124 (fn := Go.Proofs.Tryz.f136) (cd := v8 Go.Proofs.Tryz.f136) (H := (b1B n)) (rl := [.cell 4 28]) Go.Proofs.Tryz.func136 (by kernel_rfl) (by kernel_rfl) (by kernel_rfl) (by kernel_rfl) (by kernel_rfl) (by kernel_rfl) (by kernel_rfl)
theorem b0r (n : Nat) (h_semtypebase_Source_Value : y4 Go.Proofs.Tryz.prog (Q7 n)) (h_semtypebase_Source_value : y4 Go.Proofs.Tryz.prog (a0a n)) (h_semtypebase_Source_entry : y4 Go.Proofs.Tryz.prog (X9 n)) : y4 Go.Proofs.Tryz.prog (X9 (n + 1)) :=
 j8 z7 (y9 (es := [j6 tb (Q7 n), j6 tb (w9)]) ⟨z8 z7 h_semtypebase_Source_Value, ⟨z8 z7 Z3, trivial⟩⟩ 3) mixed 30 (fn := Go.Proofs.Tryz.f168) (cd := v8 Go.Proofs.Tryz.f168) (H := (b1w n)) (rl := [.cell 6 30]) Go.Proofs.Tryz.func168 (by kernel_rfl) (by kernel_rfl) (by kernel_rfl) (by kernel_rfl) (by kernel_rfl) (by kernel_rfl) (by kernel_rfl)
theorem a4R : ∀ n : Nat, y4 Go.Proofs.Tryz.prog (Q7 n) /\ y4 Go.Proofs.Tryz.prog (a0a n) /\ y4 Go.Proofs.Tryz.prog (X9 n)
 | 0 => ⟨Q9 (by kernel_rfl), Q9 (by kernel_rfl), Q9 (by kernel_rfl)⟩
 | n + 1 => by
   obtain ⟨h0, h1, h2⟩ := a4R n
   exact ⟨b0n n h0 h1 h2, b0t n h0 h1 h2, b0r n h0 h1 h2⟩
theorem b07 (n : Nat) : y4 Go.Proofs.Tryz.prog (Q7 n) := (a4R n).1
def b6u : Hints I where
 tds := fun i => (asc [] i).getD []
 spl := fun i => (asc [] i).getD []
 pre := fun i => (asc [] i).getD []
 join := asc []
 loop := asc []
 keep := asc []
def a80 : Row I := ⟨132, [.d (.int .u8)], [.k (.d (.bool))], a3R⟩
theorem b5R : y4 Go.Proofs.Tryz.prog (a80) :=
 j8 z7 (y9 (es := []) trivial 3) mixed 9 (fn := Go.Proofs.Tryz.f132) (cd := v8 Go.Proofs.Tryz.f132) (H := b6u) (rl := [.tmp 2]) Go.Proofs.Tryz.func132 (by kernel_rfl) (by kernel_rfl) (by kernel_rfl) (by kernel_rfl) (by kernel_rfl) (by kernel_rfl) (by kernel_rfl)
def b3m : Hints I where
 tds := fun i => (asc [] i).getD []
 spl := fun i => (asc [] i).getD []
 pre := fun i => (asc [] i).getD []
 join := asc []
 loop := asc [(58, ⟨562949953159180, [], [], [(3, .k (.d (.int .i64)))], [((.exit 0), []), (.ret, [(2, .k (.d (.bool)))])], bnd tb (.len (.slot 0)) 1⟩)]
 keep := asc []
def a3L : Row I := ⟨81, [.d (.str)], [.k (.d (.bool))], a1Q⟩
theorem a7h : y4 Go.Proofs.Tryz.prog (a3L) :=
 j8 z7 (y9 (es := [j6 tb (a80), j6 tb (a6b), j6 tb (a5X)]) ⟨z8 z7 b5R, ⟨z8 z7 a9H, ⟨z8 z7 a9A, trivial⟩⟩⟩ 3) mixed 49 (fn := Go.Proofs.Tryz.f81) (cd := v8 Go.Proofs.Tryz.f81) (H := b3m) (rl := [.tmp 2]) Go.Proofs.Tryz.func81 (by kernel_rfl) (by kernel_rfl) (by kernel_rfl) (by kernel_rfl) (by kernel_rfl) (by kernel_rfl) (by kernel_rfl)
def b7K (n : Nat) : Hints I where
 tds := fun i => (asc [(4, [[], [0], [], [0, 1, 2], [0, 1, 2, 3], [0, 1, 2, 3, 4], [0, 1, 2, 3, 4, 5], [0, 1, 2, 3, 4, 5, 6], [0, 1, 2, 3, 4, 5, 6, 7], [0, 1, 2, 3, 4, 5, 6, 7, 8], [0, 1, 2, 3, 4, 5, 6, 7, 8, 9], [0, 1, 2, 3, 4, 5, 6, 7, 8, 9, 10], [0, 1, 2, 3, 4, 5, 6, 7, 8, 9, 10, 11], [0, 1, 2, 3, 4, 5, 6, 7, 8, 9, 10], [0, 1, 2, 3, 4, 5, 6, 7, 8, 9, 10, 13], [0, 1, 2, 3, 4, 5, 6, 7, 8, 9, 10, 11, 12, 13, 14], [0, 1, 2, 3, 4, 5, 6, 7, 8, 9, 10, 11, 12, 13, 14, 15], [0, 1, 2, 3, 4, 5, 6, 7, 8, 9, 10], [0, 1, 2, 3, 4, 5, 6, 7, 8, 9, 10, 17], [0, 1, 2, 3, 4, 5, 6, 7, 8, 9, 10], [0, 1, 2, 3, 4, 5, 6, 7, 8, 9, 10, 17, 18, 19], [0, 1, 2, 3, 4, 5, 6, 7, 8, 9, 10, 17, 18, 19, 20], [0, 1, 2, 3, 4, 5, 6, 7, 8, 9, 10, 11, 12, 13, 14, 15, 16, 17, 18, 19, 20, 21], [0, 1, 2, 3, 4, 5, 6, 7, 8, 9, 10, 11, 12, 13, 14, 15, 16, 17, 18, 19, 20, 21, 22], [0, 1, 2, 3, 4, 5, 6, 7, 8, 9, 10, 11, 12, 13, 14, 15, 16, 17, 18, 19, 20, 21, 22, 23]]), (29, [[], [0], [], [0, 1, 2], [0, 1, 2, 3], [0, 1, 2, 3, 4], [0, 1, 2, 3, 4, 5], [0, 1, 2, 3, 4, 5, 6], [0, 1, 2, 3, 4, 5, 6, 7], [0, 1, 2, 3, 4, 5, 6, 7, 8], [0, 1, 2, 3, 4, 5, 6, 7, 8, 9], [0, 1, 2, 3, 4, 5, 6, 7, 8, 9, 10], [0, 1, 2, 3, 4, 5, 6, 7, 8, 9, 10, 11], [0, 1, 2, 3, 4, 5, 6, 7, 8, 9, 10], [0, 1, 2, 3, 4, 5, 6, 7, 8, 9, 10, 13], [0, 1, 2, 3, 4, 5, 6, 7, 8, 9, 10, 11, 12, 13, 14], [0, 1, 2, 3, 4, 5, 6, 7, 8, 9, 10, 11, 12, 13, 14, 15], [0, 1, 2, 3, 4, 5, 6, 7, 8, 9, 10], [0, 1, 2, 3, 4, 5, 6, 7, 8, 9, 10, 17], [0, 1, 2, 3, 4, 5, 6, 7, 8, 9, 10], [0, 1, 2, 3, 4, 5, 6, 7, 8, 9, 10, 17, 18, 19], [0, 1, 2, 3, 4, 5, 6, 7, 8, 9, 10, 17, 18, 19, 20], [0, 1, 2, 3, 4, 5, 6, 7, 8, 9, 10, 11, 12, 13, 14, 15, 16, 17, 18, 19, 20, 21], [0, 1, 2, 3, 4, 5, 6, 7, 8, 9, 10, 11, 12, 13, 14, 15, 16, 17, 18, 19, 20, 21, 22], [0, 1, 2, 3, 4, 5, 6, 7, 8, 9, 10, 11, 12, 13, 14, 15, 16, 17, 18, 19, 20, 21, 22, 23], [0, 1, 2, 3, 4, 5, 6, 7, 8, 9, 10, 11, 12, 13, 14, 15, 16, 17, 18, 19, 20, 21, 22, 23, 24]]), (39, [[], [0], [0, 1], [], [3], [0, 1, 2, 3, 4], [0, 1, 2, 3, 4, 5], [0, 1, 2, 3, 4, 5, 6], [0, 1, 2, 3, 4, 5, 6, 7], [0, 1, 2, 3, 4, 5, 6, 7, 8], [0, 1, 2, 3, 4, 5, 6, 7, 8, 9], [0, 1, 2, 3, 4, 5, 6, 7, 8, 9, 10], [0, 1, 2, 3, 4, 5, 6, 7, 8, 9], [0, 1, 2, 3, 4, 5, 6, 7, 8, 9, 10, 11, 12], [0, 1, 2, 3, 4, 5, 6, 7, 8, 9, 10, 11, 12, 13], [0, 1, 2, 3, 4, 5, 6, 7, 8, 9, 10, 11, 12, 13, 14], [0, 1, 2, 3, 4, 5, 6, 7, 8, 9, 10, 11, 12, 13, 14, 15], [0, 1, 2, 3, 4, 5, 6, 7, 8, 9, 10, 11, 12, 13, 14, 15, 16], [0, 1, 2, 3, 4, 5, 6, 7, 8, 9, 10, 11, 12, 13, 14, 15, 16, 17], [0, 1, 2, 3, 4, 5, 6, 7, 8, 9, 10, 11, 12, 13, 14, 15, 16, 17, 18], [0, 1, 2, 3, 4, 5, 6, 7, 8, 9, 10, 11, 12, 13, 14, 15, 16, 17, 18, 19], [0, 1, 2, 3, 4, 5, 6, 7, 8, 9, 10, 11, 12, 13, 14, 15, 16, 17, 18, 19, 20], [0, 1, 2, 3, 4, 5, 6, 7, 8, 9, 10, 11, 12, 13, 14, 15, 16, 17, 18, 19, 20, 21], [0, 1, 2, 3, 4, 5, 6, 7, 8, 9, 10, 11, 12, 13, 14, 15, 16, 17, 18, 19, 20], [0, 1, 2, 3, 4, 5, 6, 7, 8, 9, 10, 11, 12, 13, 14, 15, 16, 17, 18, 19, 20, 23], [0, 1, 2, 3, 4, 5, 6, 7, 8, 9, 10, 11, 12, 13, 14, 15, 16, 17, 18, 19, 20, 21, 22, 23, 24], [0, 1, 2, 3, 4, 5, 6, 7, 8, 9, 10, 11, 12, 13, 14, 15, 16, 17, 18, 19, 20, 21, 22, 23, 24, 25], [0, 1, 2, 3, 4, 5, 6, 7, 8, 9, 10, 11, 12, 13, 14, 15, 16, 17, 18, 19, 20], [0, 1, 2, 3, 4, 5, 6, 7, 8, 9, 10, 11, 12, 13, 14, 15, 16, 17, 18, 19, 20, 21, 22, 23, 24, 25, 26, 27], [0, 1, 2, 3, 4, 5, 6, 7, 8, 9, 10, 11, 12, 13, 14, 15, 16, 17, 18, 19, 20, 21, 22, 23, 24, 25, 26, 27, 28], [0, 1, 2, 3, 4, 5, 6, 7, 8, 9, 10, 11, 12, 13, 14, 15, 16, 17, 18, 19, 20, 21, 22, 23, 24, 25, 26, 27, 28, 29], [0, 1, 2, 3, 4, 5, 6, 7, 8, 9, 10, 11, 12, 13, 14, 15, 16, 17, 18, 19, 20, 21, 22, 23, 24, 25, 26, 27, 28, 29, 30]])] i).getD []
 spl := fun i => (asc [] i).getD []
 pre := fun i => (asc [] i).getD []
 join := asc [(4073, ⟨425352958651173079329218259289710264320, [], [], [(.normal, [(126, .k (.d (.bool)))])]⟩)]
 loop := asc [(26, ⟨4398046510092, [], [], [(3, .k (.d (.int .i64)))], [((.exit 0), []), (.ret, [(2, .k (.d (.bool)))])], bnd tb (.len (.ld 26 (.fld 28 6 (.slot 1)))) 1⟩),
  (133562354, ⟨411376139282411024886683268815639281647236804420309368268914820, [], [], [(7, .k (.d (.int .i64)))], [((.exit 3), []), (.ret, [(2, .k (.d (.bool)))])], bnd tb (.len (.ld 24 (.fld 28 4 (.slot 1)))) 1⟩),
  (1068498922, ⟨948568795032040353016559207911582007103813675119580226322391447047862150789858052, [], [], [(8, .k (.d (.int .i64)))], [((.exit 5), []), (.ret, [(2, .k (.d (.bool)))])], bnd tb (.len (.ld 25 (.fld 28 5 (.slot 1)))) 1⟩)]
 keep := asc []
def a9r (n : Nat) : Row I := ⟨52, [.d (.dat 28)], [.k (.d (.bool))], a6u n⟩
theorem b6K (n : Nat) : y4 Go.Proofs.Tryz.prog (a9r n) :=
 j8 z7 (y9 (es := [j6 tb (a3L), j6 tb (a3n), j6 tb (a2y), j6 tb (a0L), j6 tb (a6d n), j6 tb (Q0 n)]) ⟨z8 z7 a7h, ⟨z8 z7 a5Z, ⟨z8 z7 a4X, ⟨z8 z7 a1U, ⟨z8 z7 (a9s n), ⟨z8 z7 (a5w n), trivial⟩⟩⟩⟩⟩⟩ 3) mixed 269 (fn := Go.Proofs.Tryz.f52) (cd := v8 Go.Proofs.Tryz.f52) (H := (b7K n)) (rl := [.tmp 2]) Go.Proofs.Tryz.func52 (by kernel_rfl) (by kernel_rfl) (by kernel_rfl) (by kernel_rfl) (by kernel_rfl) (by kernel_rfl) (by kernel_rfl)
def b6G (n : Nat) : Hints I where
 tds := fun i => (asc [] i).getD []
 spl := fun i => (asc [] i).getD []
 pre := fun i => (asc [] i).getD []
 join := asc []
 loop := asc [(58, ⟨16776204, [], [], [(3, .k (.d (.int .i64)))], [((.exit 0), []), (.ret, [(2, .k (.d (.bool)))])], bnd tb (.len (.ld 23 (.fld 28 3 (.slot 1)))) 1⟩),
  (122, ⟨576460752286646388, [], [], [(4, .k (.d (.int .i64)))], [((.exit 2), []), (.ret, [(2, .k (.d (.bool)))])], bnd tb (.len (.ld 25 (.fld 28 5 (.slot 1)))) 1⟩),
  (31306, ⟨1125831187365956, [], [], [(6, .k (.d (.int .i64)))], [((.exit 4), []), (.ret, [(2, .k (.d (.bool)))])], bnd tb (.len (.ld 23 (.fld 30 0 (.slot 5)))) 1⟩)]
 keep := asc []
def a0G (n : Nat) : Row I := ⟨26, [.d (.dat 28)], [.k (.d (.bool))], W8 n⟩
theorem b47 (n : Nat) (h_semtyperef1_Valid : y4 Go.Proofs.Tryz.prog (a0G n)) : y4 Go.Proofs.Tryz.prog (a0G (n + 1)) :=
 j8 z7 (y9 (es := [j6 tb (a9r n), j6 tb (a0G n)]) ⟨z8 z7 (b6K n), ⟨z8 z7 h_semtyperef1_Valid, trivial⟩⟩ 3) mixed 59 (fn := Go.Proofs.Tryz.f26) (cd := v8 Go.Proofs.Tryz.f26) (H := (b6G n)) (rl := [.tmp 2]) Go.Proofs.Tryz.func26 (by kernel_rfl) (by kernel_rfl) (by kernel_rfl) (by kernel_rfl) (by kernel_rfl) (by kernel_rfl) (by kernel_rfl)
theorem a38 : ∀ n : Nat, y4 Go.Proofs.Tryz.prog (a0G n)
 | 0 => Q9 (by kernel_rfl)
 | n + 1 => b47 n (a38 n)
def b1W (n : Nat) : Hints I where
 tds := fun i => (asc [] i).getD []
 spl := fun i => (asc [] i).getD []
 pre := fun i => (asc [] i).getD []
 join := asc []
 loop := asc []
 keep := asc []
def Y5 (n : Nat) : Row I := ⟨31, [.var 76 (.k (.d (.dat 76))) true, .d (.dat 36), .d (.int .i64), .d (.int .i64)], [.k (.d (.dat 28))], a0N n⟩
def b1O (n : Nat) : Hints I where
 tds := fun i => (asc [(7, [[], [0], [], [2], [], [4], [], [6], [6, 7], [], [9], [9, 10], [6, 7, 8, 9, 10, 11], [4, 5, 6, 7, 8, 9, 10, 11, 12], [0, 1, 2, 3, 4, 5, 6, 7, 8, 9, 10, 11, 12, 13], [], [15], [0, 1, 2, 3, 4, 5, 6, 7, 8, 9, 10, 11, 12, 13, 14, 15, 16], [0, 1, 2, 3, 4, 5, 6, 7, 8, 9, 10, 11, 12, 13, 14, 15, 16, 17], [0, 1, 2, 3, 4, 5, 6, 7, 8, 9, 10, 11, 12, 13, 14, 15, 16, 17, 18], [0, 1, 2, 3, 4, 5, 6, 7, 8, 9, 10, 11, 12, 13, 14, 15, 16, 17, 18, 19]]), (25, [[], [0], [], [], [], [4], [], [4, 5, 6], [4, 5, 6, 7], [], [9], [2, 3, 4, 5, 6, 7, 8, 9, 10], [2, 3, 4, 5, 6, 7, 8, 9, 10, 11], [0, 1, 2, 3, 4, 5, 6, 7, 8, 9, 10, 11, 12], [0, 1, 2, 3, 4, 5, 6, 7, 8, 9, 10, 11, 12, 13], [0, 1, 2, 3, 4, 5, 6, 7, 8, 9, 10, 11, 12, 13, 14]]), (30, [[], [0], [], [0, 1, 2], [0, 1, 2, 3]]), (37, [[], [], [], [2], [], [], [5], [5, 6], [4, 5, 6, 7], [2, 3, 4, 5, 6, 7, 8], [2, 3, 4, 5, 6, 7, 8, 9], [], [0, 1, 2, 3, 4, 5, 6, 7, 8, 9, 10, 11], [0, 1, 2, 3, 4, 5, 6, 7, 8, 9, 10, 11, 12]]), (39, [[], [], [], [2], [], [], [5], [5, 6], [4, 5, 6, 7], [2, 3, 4, 5, 6, 7, 8], [2, 3, 4, 5, 6, 7, 8, 9], [], [0, 1, 2, 3, 4, 5, 6, 7, 8, 9, 10, 11], [0, 1, 2, 3, 4, 5, 6, 7, 8, 9, 10, 11, 12]]), (43, [[], [0], [], [2], [], [2, 3, 4], [2, 3, 4, 5], [0, 1, 2, 3, 4, 5, 6], [0, 1, 2, 3, 4, 5, 6, 7], [0, 1, 2, 3, 4, 5, 6, 7, 8], [0, 1, 2, 3, 4, 5, 6, 7, 8, 9]]), (44, [[], [0], [0, 1], [], [3], [], [5], [], [5, 6, 7], [5, 6, 7, 8], [3, 4, 5, 6, 7, 8, 9], [3, 4, 5, 6, 7, 8, 9, 10], [3, 4, 5, 6, 7, 8, 9, 10, 11], [3, 4, 5, 6, 7, 8, 9, 10, 11, 12], [0, 1, 2, 3, 4, 5, 6, 7, 8, 9, 10, 11, 12, 13], [0, 1, 2, 3, 4, 5, 6, 7, 8, 9, 10, 11, 12, 13, 14], [0, 1, 2, 3, 4, 5, 6, 7, 8, 9, 10, 11, 12, 13, 14, 15], [0, 1, 2, 3, 4, 5, 6, 7, 8, 9, 10, 11, 12, 13, 14, 15, 16]]), (47, [[], [0], [], [2], [2, 3], [0, 1, 2, 3, 4], [0, 1, 2, 3, 4, 5]])] i).getD []
 spl := fun i => (asc [] i).getD []
 pre := fun i => (asc [] i).getD []
 join := asc [(16449533, ⟨386856262276681335905976320, [], [], [(.normal, [(86, .k (.d (.bool)))])]⟩),
  (263192557, ⟨85029053355366337244815407887308292096, [], [(10, .lvs [.d (.int .i64), .d (.int .i64), .d (.str), .row 28 false, .row 114 false, .row 30 false, .row 9 false])], [(.normal, [])]⟩),
  (539018395474, ⟨102844034449451492418213359320247649773843695697413960913387520, [], [(10, .k (.d (.dat 28)))], [(.normal, [])]⟩)]
 loop := asc [(131596274, ⟨2596147810297394171575110715049984, [], [(0, .k (.d (.dat 76))), (10, .lvs [.d (.int .i64), .d (.int .i64), .d (.str), .row 28 false, .row 114 false, .row 30 false, .row 9 false])], [(11, .k (.d (.int .i64)))], [((.exit 1), [])], bnd tb (.len (.ld 22 (.fld 72 4 (.slot 9)))) 1⟩),
  (67377299434, ⟨102844034829582222281431884733353260024018043977843391611277312, [], [(10, .k (.d (.dat 28)))], [(12, .k (.d (.int .i64)))], [((.exit 3), [])], bnd tb (.len (.ld 22 (.fld 72 4 (.slot 9)))) 1⟩)]
 keep := asc []
def K4 (n : Nat) : Row I := ⟨55, [.var 76 (.k (.d (.dat 76))) true, .d (.dat 36), .d (.int .i64), .d (.int .i64)], [.k (.d (.dat 28))], b3r n⟩
def a8D (n : Nat) : Hints I where
 tds := fun i => (asc [(10, [[], [0], [], [], [], [4], [], [4, 5, 6], [4, 5, 6, 7], [], [9], [2, 3, 4, 5, 6, 7, 8, 9, 10], [2, 3, 4, 5, 6, 7, 8, 9, 10, 11], [0, 1, 2, 3, 4, 5, 6, 7, 8, 9, 10, 11, 12], [0, 1, 2, 3, 4, 5, 6, 7, 8, 9, 10, 11, 12, 13], [0, 1, 2, 3, 4, 5, 6, 7, 8, 9, 10, 11, 12, 13, 14]]), (13, [[], [], [], [2], [], [2, 3, 4], [2, 3, 4, 5], [], [7], [0, 1, 2, 3, 4, 5, 6, 7, 8], [0, 1, 2, 3, 4, 5, 6, 7, 8, 9], [0, 1, 2, 3, 4, 5, 6, 7, 8, 9, 10]])] i).getD []
 spl := fun i => (asc [] i).getD []
 pre := fun i => (asc [] i).getD []
 join := asc [(31309, ⟨2305280059260272640, [], [(0, .k (.d (.dat 76))), (12, .lvs [.row 28 false, .d (.bool), .d (.int .i64), .d (.int .i64), .d (.str), .d (.sl 28), .d (.sl 114), .d (.sl 30), .d (.sl 9)])], [(.normal, [])]⟩)]
 loop := asc [(122, ⟨36893488147414923776, [], [(0, .k (.d (.dat 76)))], [(9, .k (.row 30 false)), (11, .k (.d (.int .i64)))], [((.exit 0), [(9, .k (.row 30 false))])], bnd tb (.slot 11) 2⟩),
  (31306, ⟨70368677076992, [], [(0, .k (.d (.dat 76))), (12, .lvs [.row 28 false, .d (.bool), .d (.int .i64), .d (.int .i64), .d (.str), .row 28 false, .row 114 false, .row 30 false, .row 9 false])], [(13, .k (.d (.int .i64)))], [((.exit 2), [])], bnd tb (.slot 10) 1⟩)]
 keep := asc []
def Q6 (n : Nat) : Row I := ⟨99, [.var 76 (.k (.d (.dat 76))) true, .d (.dat 36), .d (.dat 72), .d (.int .i64)], [.k (.d (.dat 28))], a9e n⟩
def b0v (n : Nat) : Hints I where
 tds := fun i => (asc [(8, [[], [], [], [], [3], [], [3, 4, 5], [3, 4, 5, 6], [3, 4, 5, 6, 7], [], [9], [1, 2, 3, 4, 5, 6, 7, 8, 9, 10], [1, 2, 3, 4, 5, 6, 7, 8, 9, 10, 11], [0, 1, 2, 3, 4, 5, 6, 7, 8, 9, 10, 11, 12], [0, 1, 2, 3, 4, 5, 6, 7, 8, 9, 10, 11, 12, 13]]), (12, [[], [], [], [], [3], [], [3, 4, 5], [3, 4, 5, 6], [], [8], [1, 2, 3, 4, 5, 6, 7, 8, 9], [1, 2, 3, 4, 5, 6, 7, 8, 9, 10], [0, 1, 2, 3, 4, 5, 6, 7, 8, 9, 10, 11], [0, 1, 2, 3, 4, 5, 6, 7, 8, 9, 10, 11, 12]])] i).getD []
 spl := fun i => (asc [(6, [28])] i).getD []
 pre := fun i => (asc [] i).getD []
 join := asc [(125, ⟨604462333346562283935232, [], [(0, .k (.d (.dat 76)))], [(.normal, [(9, .k (.row 114 false)), (10, .k (.row 28 false))])]⟩),
  (978, ⟨72057594033735168, [], [(0, .k (.d (.dat 76)))], [(.normal, [(9, .k (.row 114 false)), (10, .k (.row 28 false))])]⟩),
  (7824, ⟨8585740288, [], [(0, .k (.d (.dat 76)))], [(.normal, [(32, .k (.d (.bool)))])]⟩)]
 loop := asc [(122, ⟨72057594037898752, [], [(0, .k (.d (.dat 76)))], [(9, .k (.row 114 false)), (10, .k (.row 28 false)), (11, .k (.d (.int .i64)))], [((.exit 0), [(9, .k (.row 114 false)), (10, .k (.row 28 false))])], bnd tb (.len (.ld 69 (.fld 72 5 (.slot 6)))) 1⟩)]
 keep := asc []
def K5 (n : Nat) : Row I := ⟨98, [.var 76 (.k (.d (.dat 76))) true, .d (.dat 36), .d (.dat 72), .d (.int .i64)], [.k (.d (.dat 28))], b1A n⟩
theorem b0S (n : Nat) (h_semtypebase_Source_Near : y4 Go.Proofs.Tryz.prog (Y5 n)) (h_semtypebase_Source_near : y4 Go.Proofs.Tryz.prog (K4 n)) (h_semtypebase_Source_nearFunction : y4 Go.Proofs.Tryz.prog (Q6 n)) (h_semtypebase_Source_nearMap : y4 Go.Proofs.Tryz.prog (K5 n)) : y4 Go.Proofs.Tryz.prog (Y5 (n + 1)) :=
 j8 z7 (y9 (es := [j6 tb (K4 n), j6 tb (a0G n), j6 tb (a1E)]) ⟨z8 z7 h_semtypebase_Source_near, ⟨z8 z7 (a38 n), ⟨z8 z7 a3M, trivial⟩⟩⟩ 3) mixed 21 (fn := Go.Proofs.Tryz.f31) (cd := v8 Go.Proofs.Tryz.f31) (H := (b1W n)) (rl := [.cell 8 28]) Go.Proofs.Tryz.func31 (by kernel_rfl) (by kernel_rfl) (by kernel_rfl) (by kernel_rfl) (by kernel_rfl) (by kernel_rfl) (by kernel_rfl)
end Go.Qx
end
section
namespace Go.Qx
open Go Go.RowKit Go.Sx
set_option maxHeartbeats 1600000
set_option maxRecDepth 100000
theorem b01 (n : Nat) (h_semtypebase_Source_Near : y4 Go.Proofs.Tryz.prog (Y5 n)) (h_semtypebase_Source_near : y4 Go.Proofs.Tryz.prog (K4 n)) (h_semtypebase_Source_nearFunction : y4 Go.Proofs.Tryz.prog (Q6 n)) (h_semtypebase_Source_nearMap : y4 Go.Proofs.Tryz.prog (K5 n)) : y4 Go.Proofs.Tryz.prog (K4 (n + 1)) :=
 j8 z7 (y9 (es := [j6 tb (a1E), j6 tb (w9), j6 tb (a62), j6 tb (a5t), j6 tb (a0M), j6 tb (a6C), j6 tb (a0l), j6 tb (a65), j6 tb (a05), j6 tb (Y5 n), j6 tb (K5 n), j6 tb (Q6 n), j6 tb (K4 n), j6 tb (a3g), j6 tb (a6K), j6 tb (Q7 n)]) ⟨z8 z7 a3M, ⟨z8 z7 Z3, ⟨z8 z7 b1f, ⟨z8 z7 a8W, ⟨z8 z7 a1V, ⟨z8 z7 a95, ⟨z8 z7 a1g, ⟨z8 z7 b06, ⟨z8 z7 a18, ⟨z8 z7 h_semtypebase_Source_Near, ⟨z8 z7 h_semtypebase_Source_nearMap, ⟨z8 z7 h_semtypebase_Source_nearFunction, ⟨z8 z7 h_semtypebase_Source_near, ⟨z8 z7 a5S, ⟨z8 z7 b2b, ⟨z8 z7 (b07 n), trivial⟩⟩⟩⟩⟩⟩⟩⟩⟩⟩⟩⟩⟩⟩⟩⟩ 3) mixed 217 (fn := Go.Proofs.Tryz.f55) (cd := v8 Go.Proofs.Tryz.f55) (H := (b1O n)) (rl := [.cell 8 28]) Go.Proofs.Tryz.func55 (by kernel_rfl) (by kernel_rfl) (by kernel_rfl) (by kernel_rfl) (by kernel_rfl) (by kernel_rfl) (by kernel_rfl)
theorem a7P (n : Nat) (h_semtypebase_Source_Near : y4 Go.Proofs.Tryz.prog (Y5 n)) (h_semtypebase_Source_near : y4 Go.Proofs.Tryz.prog (K4 n)) (h_semtypebase_Source_nearFunction : y4 Go.Proofs.Tryz.prog (Q6 n)) (h_semtypebase_Source_nearMap : y4 Go.Proofs.Tryz.prog (K5 n)) : y4 Go.Proofs.Tryz.prog (Q6 (n + 1)) :=
 j8 z7 (y9 (es := [j6 tb (w9), j6 tb (Y5 n), j6 tb (a4t n), j6 tb (a05)]) ⟨z8 z7 Z3, ⟨z8 z7 h_semtypebase_Source_Near, ⟨z8 z7 (a77 n), ⟨z8 z7 a18, trivial⟩⟩⟩⟩ 3) mixed 75 (fn := Go.Proofs.Tryz.f99) (cd := v8 Go.Proofs.Tryz.f99) (H := (a8D n)) (rl := [.cell 8 28]) Go.Proofs.Tryz.func99 (by kernel_rfl) (by kernel_rfl) (by kernel_rfl) (by kernel_rfl) (by kernel_rfl) (by kernel_rfl) (by kernel_rfl)
theorem a9n (n : Nat) (h_semtypebase_Source_Near : y4 Go.Proofs.Tryz.prog (Y5 n)) (h_semtypebase_Source_near : y4 Go.Proofs.Tryz.prog (K4 n)) (h_semtypebase_Source_nearFunction : y4 Go.Proofs.Tryz.prog (Q6 n)) (h_semtypebase_Source_nearMap : y4 Go.Proofs.Tryz.prog (K5 n)) : y4 Go.Proofs.Tryz.prog (K5 (n + 1)) :=
 j8 z7 (y9 (es := [j6 tb (w9), j6 tb (Y5 n), j6 tb (a64), j6 tb (a05)]) ⟨z8 z7 Z3, ⟨z8 z7 h_semtypebase_Source_Near, ⟨z8 z7 b02, ⟨z8 z7 a18, trivial⟩⟩⟩⟩ 3) mixed 89 (fn := Go.Proofs.Tryz.f98) (cd := v8 Go.Proofs.Tryz.f98) (H := (b0v n)) (rl := [.cell 8 28]) Go.Proofs.Tryz.func98 (by kernel_rfl) (by kernel_rfl) (by kernel_rfl) (by kernel_rfl) (by kernel_rfl) (by kernel_rfl) (by kernel_rfl)
theorem a5e : ∀ n : Nat, y4 Go.Proofs.Tryz.prog (Y5 n) /\ y4 Go.Proofs.Tryz.prog (K4 n) /\ y4 Go.Proofs.Tryz.prog (Q6 n) /\ y4 Go.Proofs.Tryz.prog (K5 n)
 | 0 => ⟨Q9 (by kernel_rfl), Q9 (by kernel_rfl), Q9 (by kernel_rfl), Q9 (by kernel_rfl)⟩
 | n + 1 => by
   obtain ⟨h0, h1, h2, h3⟩ := a5e n
   exact ⟨b0S n h0 h1 h2 h3, b01 n h0 h1 h2 h3, a7P n h0 h1 h2 h3, a9n n h0 h1 h2 h3⟩
theorem b1n (n : Nat) : y4 Go.Proofs.Tryz.prog (Y5 n) := (a5e n).1
def b6y (n : Nat) : Hints I where
 tds := fun i => (asc [(12, [[], [0], [], [], [2, 3], [2, 3, 4], [0, 1, 2, 3, 4, 5], [0, 1, 2, 3, 4, 5, 6], [0, 1, 2, 3, 4, 5, 6, 7]]), (19, [[], [0], [], [], [], [], [4, 5], [2, 3, 4, 5, 6], [2, 3, 4, 5, 6, 7], [0, 1, 2, 3, 4, 5, 6, 7, 8], [0, 1, 2, 3, 4, 5, 6, 7, 8, 9], [0, 1, 2, 3, 4, 5, 6, 7, 8, 9, 10]]), (22, [[], [], [], [], [2, 3], [0, 1, 2, 3, 4], [0, 1, 2, 3, 4, 5], [0, 1, 2, 3, 4, 5, 6]]), (23, [[], [], [], [0], [0, 1, 3], [0, 1, 2, 3, 4]])] i).getD []
 spl := fun i => (asc [] i).getD []
 pre := fun i => (asc [] i).getD []
 join := asc [(4093, ⟨19267255250108152471879680, [], [(14, .k (.d (.dat 76))), (15, .lvs [.row 28 false, .d (.bool), .d (.int .i64), .d (.int .i64), .d (.str), .d (.sl 28), .d (.sl 114), .d (.sl 30), .d (.sl 9)])], [(.normal, [])]⟩)]
 loop := asc [(506, ⟨18014397435754496, [], [(7, .k (.d (.dat 76))), (8, .lvs [.row 72 false, .d (.int .i64)])], [(11, .k (.d (.int .i64)))], [((.exit 0), [])], bnd tb (.cst 3) 1⟩),
  (4090, ⟨9444588850551214637056, [8], [(14, .k (.d (.dat 76))), (15, .lvs [.row 28 false, .d (.bool), .d (.int .i64), .d (.int .i64), .d (.str), .row 28 false, .row 114 false, .row 30 false, .row 9 false])], [(16, .k (.d (.int .i64)))], [((.exit 4), [])], bnd tb (.slot 10) 1⟩),
  (129610, ⟨281440616980480, [], [(7, .k (.d (.dat 76))), (12, .lvs [.d (.int .i64), .d (.int .i64), .d (.int .i64), .d (.str), .row 3 false, .row 132 false, .d (.int .i64), .d (.int .i64)])], [(13, .k (.d (.int .i64)))], [((.exit 2), [])], bnd tb (.slot 10) 2⟩)]
 keep := asc []
def a8X (n : Nat) : Row I := ⟨11, [.d (.sl 3), .d (.sl 3)], [.k (.d (.dat 36)), .k (.d (.int .i64)), .k (.d (.dat 30))], a5z n⟩
theorem b55 (n : Nat) : y4 Go.Proofs.Tryz.prog (a8X n) :=
 j8 z7 (y9 (es := [j6 tb (w9), j6 tb (a6i), j6 tb (Y5 n)]) ⟨z8 z7 Z3, ⟨z8 z7 b1v, ⟨z8 z7 (b1n n), trivial⟩⟩⟩ 3) mixed 87 (fn := Go.Proofs.Tryz.f11) (cd := v8 Go.Proofs.Tryz.f11) (H := (b6y n)) (rl := [.cell 4 36, .tmp 5, .cell 6 30]) Go.Proofs.Tryz.func11 (by kernel_rfl) (by kernel_rfl) (by kernel_rfl) (by kernel_rfl) (by kernel_rfl) (by kernel_rfl) (by kernel_rfl)
def b6B : Hints I where
 tds := fun i => (asc [] i).getD []
 spl := fun i => (asc [] i).getD []
 pre := fun i => (asc [] i).getD []
 join := asc []
 loop := asc []
 keep := asc []
def a1l : Row I := ⟨37, [.d (.dat 36), .d (.int .i64)], [.k (.d (.bool))], V3⟩
theorem a2z : y4 Go.Proofs.Tryz.prog (a1l) :=
 j8 z7 (y9 (es := []) trivial 3) mixed 14 (fn := Go.Proofs.Tryz.f37) (cd := v8 Go.Proofs.Tryz.f37) (H := b6B) (rl := [.tmp 4]) Go.Proofs.Tryz.func37 (by kernel_rfl) (by kernel_rfl) (by kernel_rfl) (by kernel_rfl) (by kernel_rfl) (by kernel_rfl) (by kernel_rfl)
def b7m : Hints I where
 tds := fun i => (asc [(4, [[], [], [1], [], [1, 2, 3], [1, 2, 3, 4], [0, 1, 2, 3, 4, 5], [0, 1, 2, 3, 4, 5, 6]]), (47, [[], [], [1], [0, 1, 2], [0, 1, 2, 3], [0, 1, 2, 3, 4], [0, 1, 2, 3, 4, 5], [0, 1, 2, 3, 4, 5, 6], [0, 1, 2, 3, 4, 5, 6, 7], [0, 1, 2, 3, 4, 5, 6, 7, 8], [0, 1, 2, 3, 4, 5, 6, 7, 8, 9], [0, 1, 2, 3, 4, 5, 6, 7, 8, 9, 10], [0, 1, 2, 3, 4, 5, 6, 7, 8, 9, 10, 11], [0, 1, 2, 3, 4, 5, 6, 7, 8, 9, 10, 11, 12], [0, 1, 2, 3, 4, 5, 6, 7, 8, 9, 10, 11, 12, 13], [0, 1, 2, 3, 4, 5, 6, 7, 8, 9, 10, 11, 12, 13, 14], [0, 1, 2, 3, 4, 5, 6, 7, 8, 9, 10, 11, 12, 13, 14, 15], [0, 1, 2, 3, 4, 5, 6, 7, 8, 9, 10, 11, 12, 13, 14], [0, 1, 2, 3, 4, 5, 6, 7, 8, 9, 10, 11, 12, 13, 14, 17], [0, 1, 2, 3, 4, 5, 6, 7, 8, 9, 10, 11, 12, 13, 14, 15, 16, 17, 18], [0, 1, 2, 3, 4, 5, 6, 7, 8, 9, 10, 11, 12, 13, 14, 15, 16, 17, 18, 19], [0, 1, 2, 3, 4, 5, 6, 7, 8, 9, 10, 11, 12, 13, 14, 15, 16, 17, 18, 19, 20], [0, 1, 2, 3, 4, 5, 6, 7, 8, 9, 10, 11, 12, 13, 14], [0, 1, 2, 3, 4, 5, 6, 7, 8, 9, 10, 11, 12, 13, 14, 22], [0, 1, 2, 3, 4, 5, 6, 7, 8, 9, 10, 11, 12, 13, 14, 15, 16, 17, 18, 19, 20, 21, 22, 23], [0, 1, 2, 3, 4, 5, 6, 7, 8, 9, 10, 11, 12, 13, 14, 15, 16, 17, 18, 19, 20, 21, 22, 23, 24], [0, 1, 2, 3, 4, 5, 6, 7, 8, 9, 10, 11, 12, 13, 14, 15, 16, 17, 18, 19, 20, 21, 22, 23, 24, 25], [0, 1, 2, 3, 4, 5, 6, 7, 8, 9, 10, 11, 12, 13, 14, 15, 16, 17, 18, 19, 20, 21, 22, 23, 24, 25, 26]])] i).getD []
 spl := fun i => (asc [] i).getD []
 pre := fun i => (asc [] i).getD []
 join := asc [(2092029, ⟨2706308199418088717232151174730781556736, [], [], [(.normal, [(122, .k (.d (.bool)))])]⟩),
  (535560189, ⟨3568119231764899702645714923623737840956866560, [], [], [(.normal, [(149, .k (.d (.bool)))])]⟩)]
 loop := asc [(26, ⟨67106864, [], [], [(5, .k (.d (.int .i64)))], [((.exit 0), []), (.ret, [(4, .k (.d (.bool)))])], bnd tb (.len (.ld 22 (.fld 72 4 (.slot 3)))) 1⟩),
  (68551704562, ⟨1606938044257528773904631189422958917689486710763136902759952, [], [], [(9, .k (.d (.int .i64)))], [((.exit 3), []), (.ret, [(4, .k (.d (.bool)))])], bnd tb (.len (.ld 69 (.fld 72 5 (.slot 3)))) 1⟩)]
 keep := asc []
def a9N : Row I := ⟨67, [.d (.dat 36), .d (.dat 72)], [.k (.d (.bool))], a6p⟩
theorem b6I : y4 Go.Proofs.Tryz.prog (a9N) :=
 j8 z7 (y9 (es := [j6 tb (a1l), j6 tb (a3n), j6 tb (a3L), j6 tb (a2y), j6 tb (a0L)]) ⟨z8 z7 a2z, ⟨z8 z7 a5Z, ⟨z8 z7 a7h, ⟨z8 z7 a4X, ⟨z8 z7 a1U, trivial⟩⟩⟩⟩⟩ 3) mixed 216 (fn := Go.Proofs.Tryz.f67) (cd := v8 Go.Proofs.Tryz.f67) (H := b7m) (rl := [.tmp 4]) Go.Proofs.Tryz.func67 (by kernel_rfl) (by kernel_rfl) (by kernel_rfl) (by kernel_rfl) (by kernel_rfl) (by kernel_rfl) (by kernel_rfl)
def b5i : Hints I where
 tds := fun i => (asc [] i).getD []
 spl := fun i => (asc [] i).getD []
 pre := fun i => (asc [] i).getD []
 join := asc []
 loop := asc []
 keep := asc []
def a73 : Row I := ⟨68, [.d (.dat 72)], [.k (.d (.bool))], a4E⟩
theorem b4c : y4 Go.Proofs.Tryz.prog (a73) :=
 j8 z7 (y9 (es := []) trivial 3) mixed 16 (fn := Go.Proofs.Tryz.f68) (cd := v8 Go.Proofs.Tryz.f68) (H := b5i) (rl := [.tmp 2]) Go.Proofs.Tryz.func68 (by kernel_rfl) (by kernel_rfl) (by kernel_rfl) (by kernel_rfl) (by kernel_rfl) (by kernel_rfl) (by kernel_rfl)
def b2R (n : Nat) : Hints I where
 tds := fun i => (asc [(6, [[], [], [1], [], [1, 2, 3], [1, 2, 3, 4], [0, 1, 2, 3, 4, 5], [0, 1, 2, 3, 4, 5, 6]])] i).getD []
 spl := fun i => (asc [] i).getD []
 pre := fun i => (asc [] i).getD []
 join := asc []
 loop := asc [(58, ⟨1073709068, [], [], [(3, .k (.d (.int .i64)))], [((.exit 0), []), (.ret, [(2, .k (.d (.int .i64)))])], bnd tb (.len (.ld 34 (.fld 36 0 (.slot 1)))) 1⟩),
  (250, ⟨4951760157141521082416628192, [], [], [(4, .k (.row 4 false)), (5, .k (.d (.int .i64)))], [((.exit 2), [(4, .k (.row 4 false))])], bnd tb (.len (.ld 34 (.fld 36 0 (.slot 1)))) 1⟩),
  (506, ⟨10136253041668693690874029146628, [], [], [(4, .k (.row 4 false)), (9, .k (.d (.int .i64)))], [((.exit 8), [(4, .k (.row 4 false))]), (.ret, [(2, .k (.d (.int .i64))), (4, .k (.row 4 false))])], bnd tb (.len (.slot 4)) 1⟩),
  (16018, ⟨4951760157141518900573241792, [], [], [(4, .k (.row 4 false)), (6, .k (.d (.int .i64)))], [((.exit 4), [(4, .k (.row 4 false))])], bnd tb (.len (.ld 34 (.fld 36 0 (.slot 1)))) 1⟩),
  (4100682, ⟨4835703278177041722114432, [], [], [(4, .k (.row 4 false)), (7, .k (.d (.bool))), (8, .k (.d (.int .i64)))], [((.exit 6), [(4, .k (.row 4 false)), (7, .k (.d (.bool)))])], fun _ => some n⟩)]
 keep := asc []
def a1Y (n : Nat) : Row I := ⟨36, [.d (.dat 36)], [.k (.d (.int .i64))], X7 n⟩
theorem a32 (n : Nat) : y4 Go.Proofs.Tryz.prog (a1Y n) :=
 j8 z7 (y9 (es := [j6 tb (a1l), j6 tb (a9N), j6 tb (a73)]) ⟨z8 z7 a2z, ⟨z8 z7 b6I, ⟨z8 z7 b4c, trivial⟩⟩⟩ 3) mixed 103 (fn := Go.Proofs.Tryz.f36) (cd := v8 Go.Proofs.Tryz.f36) (H := (b2R n)) (rl := [.tmp 2]) Go.Proofs.Tryz.func36 (by kernel_rfl) (by kernel_rfl) (by kernel_rfl) (by kernel_rfl) (by kernel_rfl) (by kernel_rfl) (by kernel_rfl)
def b5d : Hints I where
 tds := fun i => (asc [(1, [[], [0], [0, 1], [], [3], [0, 1, 2, 3, 4], [0, 1, 2, 3, 4, 5]]), (5, [[], [], [], [1, 2], [1, 2, 3], [0, 1, 2, 3, 4], [0, 1, 2, 3, 4, 5]])] i).getD []
 spl := fun i => (asc [] i).getD []
 pre := fun i => (asc [] i).getD []
 join := asc []
 loop := asc [(58, ⟨67100752, [5], [], [(6, .k (.d (.int .i64)))], [((.exit 0), []), (.ret, [(4, .k (.d (.bool)))])], bnd tb (.len (.slot 5)) 1⟩)]
 keep := asc []
def a4U : Row I := ⟨22, [.d (.dat 36), .d (.dat 47)], [.k (.d (.bool))], a2V⟩
theorem a8r : y4 Go.Proofs.Tryz.prog (a4U) :=
 j8 z7 (y9 (es := [j6 tb (a1l)]) ⟨z8 z7 a2z, trivial⟩ 3) mixed 26 (fn := Go.Proofs.Tryz.f22) (cd := v8 Go.Proofs.Tryz.f22) (H := b5d) (rl := [.tmp 4]) Go.Proofs.Tryz.func22 (by kernel_rfl) (by kernel_rfl) (by kernel_rfl) (by kernel_rfl) (by kernel_rfl) (by kernel_rfl) (by kernel_rfl)
def b3q : Hints I where
 tds := fun i => (asc [(6, [[], [], [0, 1], [0, 1, 2], [], [], [4, 5], [4, 5, 6], [0, 1, 2, 3, 4, 5, 6, 7]])] i).getD []
 spl := fun i => (asc [] i).getD []
 pre := fun i => (asc [] i).getD []
 join := asc []
 loop := asc [(58, ⟨67106864, [], [], [(5, .k (.d (.int .i64)))], [((.exit 0), []), (.ret, [(4, .k (.d (.bool)))])], bnd tb (.len (.slot 0)) 1⟩)]
 keep := asc []
def a68 : Row I := ⟨44, [.d (.sl 3), .d (.sl 3)], [.k (.d (.bool))], a14⟩
theorem b2K : y4 Go.Proofs.Tryz.prog (a68) :=
 j8 z7 (y9 (es := []) trivial 3) mixed 26 (fn := Go.Proofs.Tryz.f44) (cd := v8 Go.Proofs.Tryz.f44) (H := b3q) (rl := [.tmp 4]) Go.Proofs.Tryz.func44 (by kernel_rfl) (by kernel_rfl) (by kernel_rfl) (by kernel_rfl) (by kernel_rfl) (by kernel_rfl) (by kernel_rfl)
def b3h : Hints I where
 tds := fun i => (asc [] i).getD []
 spl := fun i => (asc [] i).getD []
 pre := fun i => (asc [] i).getD []
 join := asc []
 loop := asc []
 keep := asc []
def a6J : Row I := ⟨18, [.d (.dat 47), .d (.dat 47)], [.k (.d (.bool))], a0u⟩
theorem b2m : y4 Go.Proofs.Tryz.prog (a6J) :=
 j8 z7 (y9 (es := [j6 tb (a68)]) ⟨z8 z7 b2K, trivial⟩ 3) mixed 24 (fn := Go.Proofs.Tryz.f18) (cd := v8 Go.Proofs.Tryz.f18) (H := b3h) (rl := [.tmp 4]) Go.Proofs.Tryz.func18 (by kernel_rfl) (by kernel_rfl) (by kernel_rfl) (by kernel_rfl) (by kernel_rfl) (by kernel_rfl) (by kernel_rfl)
def c1V : Hints I where
 tds := fun i => (asc [(1, [[], [0], [0, 1], [], [3], [0, 1, 2, 3, 4], [0, 1, 2, 3, 4, 5], []])] i).getD []
 spl := fun i => (asc [] i).getD []
 pre := fun i => (asc [] i).getD []
 join := asc []
 loop := asc [(26, ⟨268419152, [12], [], [(14, .k (.d (.int .i64)))], [((.exit 0), []), (.ret, [(4, .k (.d (.bool)))])], bnd tb (.slot 13) 1⟩)]
 keep := asc []
def b3L : Row I := ⟨73, [.d (.dat 36), .d (.dat 47)], [.k (.d (.bool))], b0N⟩
theorem c0D : y4 Go.Proofs.Tryz.prog (b3L) :=
 j8 z7 (y9 (es := [j6 tb b43]) ⟨z8 z7 b9M, trivial⟩ 3) mixed 28 (fn := Go.Proofs.Tryz.f73) (cd := v8 Go.Proofs.Tryz.f73) (H := c1V) (rl := [.tmp 4]) Go.Proofs.Tryz.func73 (by kernel_rfl) (by kernel_rfl) (by kernel_rfl) (by kernel_rfl) (by kernel_rfl) (by kernel_rfl) (by kernel_rfl)
def b9V (n : Nat) : Hints I where
 tds := fun i => (asc [] i).getD []
 spl := fun i => (asc [] i).getD []
 pre := fun i => (asc [] i).getD []
 join := asc []
 loop := asc []
 keep := asc []
def b1J (n : Nat) : Row I := ⟨119, [.d (.int .i64), .var 28 (.k (.d (.dat 28))) false, .var 36 (.k (.d (.dat 36))) false], [.k (.d (.bool))], b1z n⟩
theorem b9o (n : Nat) : y4 Go.Proofs.Tryz.prog (b1J n) :=
 j8 z7 (y9 (es := [j6 tb (V1 n)]) ⟨z8 z7 (b8K n), trivial⟩ 3) mixed 10 (fn := Go.Proofs.Tryz.f119) (cd := v8 Go.Proofs.Tryz.f119) (H := (b9V n)) (rl := [.tmp 4]) Go.Proofs.Tryz.func119 (by kernel_rfl) (by kernel_rfl) (by kernel_rfl) (by kernel_rfl) (by kernel_rfl) (by kernel_rfl) (by kernel_rfl)
def b9X (n : Nat) : Hints I where
 tds := fun i => (asc [] i).getD []
 spl := fun i => (asc [] i).getD []
 pre := fun i => (asc [] i).getD []
 join := asc []
 loop := asc []
 keep := asc []
def b1N (n : Nat) : Row I := ⟨120, [.d (.int .i64), .var 28 (.k (.d (.dat 28))) false, .var 36 (.k (.d (.dat 36))) false], [.k (.d (.bool))], b1E n⟩
theorem b8U (n : Nat) : y4 Go.Proofs.Tryz.prog (b1N n) :=
 j8 z7 (y9 (es := [j6 tb (V1 n)]) ⟨z8 z7 (b8K n), trivial⟩ 3) mixed 9 (fn := Go.Proofs.Tryz.f120) (cd := v8 Go.Proofs.Tryz.f120) (H := (b9X n)) (rl := [.tmp 4]) Go.Proofs.Tryz.func120 (by kernel_rfl) (by kernel_rfl) (by kernel_rfl) (by kernel_rfl) (by kernel_rfl) (by kernel_rfl) (by kernel_rfl)
def c1L (n : Nat) : Hints I where
 tds := fun i => (asc [] i).getD []
 spl := fun i => (asc [] i).getD []
 pre := fun i => (asc [] i).getD []
 join := asc []
 loop := asc []
 keep := asc []
def b3H (n : Nat) : Row I := ⟨74, [.d (.dat 28), .d (.dat 36), .d (.sl 3), .d (.sl 3)], [.k (.d (.bool))], b4u n⟩
theorem c1c (n : Nat) : y4 Go.Proofs.Tryz.prog (b3H n) :=
 j8 z7 (y9 (es := [j6 tb (a0k), j6 tb (b1J n), j6 tb (b1N n)]) ⟨z8 z7 a1i, ⟨z8 z7 (b9o n), ⟨z8 z7 (b8U n), trivial⟩⟩⟩ 3) mixed 19 (fn := Go.Proofs.Tryz.f74) (cd := v8 Go.Proofs.Tryz.f74) (H := (c1L n)) (rl := [.tmp 8]) Go.Proofs.Tryz.func74 (by kernel_rfl) (by kernel_rfl) (by kernel_rfl) (by kernel_rfl) (by kernel_rfl) (by kernel_rfl) (by kernel_rfl)
def c1e (n : Nat) : Hints I where
 tds := fun i => (asc [] i).getD []
 spl := fun i => (asc [] i).getD []
 pre := fun i => (asc [] i).getD []
 join := asc []
 loop := asc []
 keep := asc []
def b3a (n : Nat) : Row I := ⟨45, [.d (.dat 28), .d (.dat 36), .d (.dat 47)], [.k (.d (.bool))], a4m n⟩
theorem c0i (n : Nat) : y4 Go.Proofs.Tryz.prog (b3a n) :=
 j8 z7 (y9 (es := [j6 tb (a7t n), j6 tb (a2R n), j6 tb (b3L), j6 tb (b3H n)]) ⟨z8 z7 (b1M n), ⟨z8 z7 (a5j n), ⟨z8 z7 c0D, ⟨z8 z7 (c1c n), trivial⟩⟩⟩⟩ 3) mixed 40 (fn := Go.Proofs.Tryz.f45) (cd := v8 Go.Proofs.Tryz.f45) (H := (c1e n)) (rl := [.tmp 6]) Go.Proofs.Tryz.func45 (by kernel_rfl) (by kernel_rfl) (by kernel_rfl) (by kernel_rfl) (by kernel_rfl) (by kernel_rfl) (by kernel_rfl)
def c0E (n : Nat) : Hints I where
 tds := fun i => (asc [(6, [[], [], [], [2], [], [2, 3, 4], [2, 3, 4, 5], [0, 1, 2, 3, 4, 5, 6], [0, 1, 2, 3, 4, 5, 6, 7]])] i).getD []
 spl := fun i => (asc [] i).getD []
 pre := fun i => (asc [] i).getD []
 join := asc []
 loop := asc [(58, ⟨2198956147136, [], [], [(26, .k (.d (.int .i64)))], [((.exit 0), []), (.ret, [(6, .k (.d (.bool)))])], bnd tb (.slot 25) 1⟩)]
 keep := asc []
def b3o (n : Nat) : Row I := ⟨19, [.d (.dat 30), .d (.dat 36), .d (.dat 57)], [.k (.d (.bool))], a9p n⟩
theorem c0f (n : Nat) : y4 Go.Proofs.Tryz.prog (b3o n) :=
 j8 z7 (y9 (es := [j6 tb (b3a n)]) ⟨z8 z7 (c0i n), trivial⟩ 3) mixed 51 (fn := Go.Proofs.Tryz.f19) (cd := v8 Go.Proofs.Tryz.f19) (H := (c0E n)) (rl := [.tmp 6]) Go.Proofs.Tryz.func19 (by kernel_rfl) (by kernel_rfl) (by kernel_rfl) (by kernel_rfl) (by kernel_rfl) (by kernel_rfl) (by kernel_rfl)
def b8u : Hints I where
 tds := fun i => (asc [(4, [[], [0], [], [0, 1, 2], [0, 1, 2, 3], [], [0, 1, 2, 3, 4, 5]])] i).getD []
 spl := fun i => (asc [] i).getD []
 pre := fun i => (asc [] i).getD []
 join := asc []
 loop := asc [(26, ⟨2097136, [], [], [(5, .k (.d (.int .i64)))], [((.exit 0), []), (.ret, [(4, .k (.d (.int .i64)))])], bnd tb (.len (.ld 24 (.fld 28 4 (.slot 2)))) 1⟩)]
 keep := asc []
def a99 : Row I := ⟨130, [.d (.dat 28), .d (.dat 114)], [.k (.d (.int .i64))], a7b⟩
theorem b7u : y4 Go.Proofs.Tryz.prog (a99) :=
 j8 z7 (y9 (es := []) trivial 3) mixed 21 (fn := Go.Proofs.Tryz.f130) (cd := v8 Go.Proofs.Tryz.f130) (H := b8u) (rl := [.tmp 4]) Go.Proofs.Tryz.func130 (by kernel_rfl) (by kernel_rfl) (by kernel_rfl) (by kernel_rfl) (by kernel_rfl) (by kernel_rfl) (by kernel_rfl)
def b6s : Hints I where
 tds := fun i => (asc [(4, [[], [0], [], [0, 1, 2], [0, 1, 2, 3], [0, 1, 2, 3, 4], [], [0, 1, 2, 3, 4, 5, 6]])] i).getD []
 spl := fun i => (asc [] i).getD []
 pre := fun i => (asc [] i).getD []
 join := asc []
 loop := asc [(26, ⟨4194288, [], [], [(5, .k (.d (.int .i64)))], [((.exit 0), []), (.ret, [(4, .k (.d (.int .i64)))])], bnd tb (.len (.ld 69 (.fld 72 5 (.slot 2)))) 1⟩)]
 keep := asc []
def a83 : Row I := ⟨131, [.d (.dat 72), .d (.dat 114)], [.k (.d (.int .i64))], a2D⟩
theorem b56 : y4 Go.Proofs.Tryz.prog (a83) :=
 j8 z7 (y9 (es := []) trivial 3) mixed 22 (fn := Go.Proofs.Tryz.f131) (cd := v8 Go.Proofs.Tryz.f131) (H := b6s) (rl := [.tmp 4]) Go.Proofs.Tryz.func131 (by kernel_rfl) (by kernel_rfl) (by kernel_rfl) (by kernel_rfl) (by kernel_rfl) (by kernel_rfl) (by kernel_rfl)
def b36 (n : Nat) : Hints I where
 tds := fun i => (asc [(8, [[], [0], [], [], [3], [], [3, 4, 5], [0, 1, 2, 3, 4, 5, 6], [0, 1, 2, 3, 4, 5, 6, 7], [0, 1, 2, 3, 4, 5, 6, 7, 8], [0, 1, 2, 3, 4, 5, 6, 7, 8, 9], [0, 1, 2, 3, 4, 5, 6, 7, 8, 9, 10], [0, 1, 2, 3, 4, 5, 6, 7, 8, 9, 10, 11], [0, 1, 2, 3, 4, 5, 6, 7, 8, 9, 10, 11, 12], [0, 1, 2, 3, 4, 5, 6, 7, 8, 9, 10, 11], [0, 1, 2, 3, 4, 5, 6, 7, 8, 9, 10, 11], [0, 1, 2, 3, 4, 5, 6, 7, 8, 9, 10, 11, 15], [0, 1, 2, 3, 4, 5, 6, 7, 8, 9, 10, 11], [0, 1, 2, 3, 4, 5, 6, 7, 8, 9, 10, 11, 15, 16, 17], [0, 1, 2, 3, 4, 5, 6, 7, 8, 9, 10, 11, 15, 16, 17, 18], [0, 1, 2, 3, 4, 5, 6, 7, 8, 9, 10, 11, 12, 13, 14, 15, 16, 17, 18, 19], [0, 1, 2, 3, 4, 5, 6, 7, 8, 9, 10, 11, 12, 13, 14, 15, 16, 17, 18, 19, 20], [0, 1, 2, 3, 4, 5, 6, 7, 8, 9, 10, 11, 12, 13, 14, 15, 16, 17, 18, 19, 20, 21], [0, 1, 2, 3, 4, 5, 6, 7, 8, 9, 10, 11, 12, 13, 14, 15, 16, 17, 18, 19, 20, 21, 22]])] i).getD []
 spl := fun i => (asc [] i).getD []
 pre := fun i => (asc [] i).getD []
 join := asc []
 loop := asc [(122, ⟨18014398509220672, [], [], [(8, .k (.d (.int .i64)))], [((.exit 0), []), (.ret, [(6, .k (.d (.bool)))])], bnd tb (.len (.ld 25 (.fld 28 5 (.slot 3)))) 1⟩)]
 keep := asc []
def a0f (n : Nat) : Row I := ⟨80, [.d (.dat 28), .d (.dat 36), .d (.dat 72)], [.k (.d (.bool))], a0S n⟩
def b5j (n : Nat) : Hints I where
 tds := fun i => (asc [(4, [[], [0], [], [0, 1, 2], [0, 1, 2, 3], [0, 1, 2, 3, 4], [0, 1, 2, 3, 4, 5], [0, 1, 2, 3, 4, 5, 6], [0, 1, 2, 3, 4, 5, 6, 7], [0, 1, 2, 3, 4, 5, 6, 7], [0, 1, 2, 3, 4, 5, 6, 7, 9], [0, 1, 2, 3, 4, 5, 6, 7], [0, 1, 2, 3, 4, 5, 6, 7, 9, 10, 11], [0, 1, 2, 3, 4, 5, 6, 7, 9, 10, 11, 12], [0, 1, 2, 3, 4, 5, 6, 7, 9, 10, 11, 12, 13], [0, 1, 2, 3, 4, 5, 6, 7, 8, 9, 10, 11, 12, 13, 14], [0, 1, 2, 3, 4, 5, 6, 7, 8, 9, 10, 11, 12, 13, 14, 15], [0, 1, 2, 3, 4, 5, 6, 7, 8, 9, 10, 11, 12, 13, 14, 15, 16]]), (9, [[], [], [1], [], [1, 2, 3], [1, 2, 3, 4], [0, 1, 2, 3, 4, 5], [0, 1, 2, 3, 4, 5, 6]]), (13, [[], [0], [], [0, 1, 2], [0, 1, 2, 3], [], [], [0, 1, 2, 3, 4, 5, 6], [0, 1, 2, 3, 4, 5, 6, 7]])] i).getD []
 spl := fun i => (asc [] i).getD []
 pre := fun i => (asc [] i).getD []
 join := asc [(3730, ⟨575334852396581888, [], [], [(.normal, [(10, .k (.d (.int .i64)))])]⟩),
  (14925, ⟨145268109580462720000, [], [], [(.normal, [(10, .k (.d (.int .i64)))])]⟩)]
 loop := asc [(26, ⟨68719474880, [], [], [(7, .k (.d (.int .i64)))], [((.exit 0), []), (.ret, [(6, .k (.d (.bool)))])], bnd tb (.len (.ld 69 (.fld 72 5 (.slot 5)))) 1⟩),
  (58, ⟨75557863725845603944256, [], [], [(8, .k (.d (.int .i64)))], [((.exit 2), []), (.ret, [(6, .k (.d (.bool)))])], bnd tb (.len (.ld 24 (.fld 28 4 (.slot 3)))) 1⟩)]
 keep := asc []
def a0q (n : Nat) : Row I := ⟨79, [.d (.dat 28), .d (.dat 36), .d (.dat 72)], [.k (.d (.bool))], a1a n⟩
def b5O (n : Nat) : Hints I where
 tds := fun i => (asc [(35, [[], [], [], [2], [], [2, 3, 4], [2, 3, 4, 5], [0, 1, 2, 3, 4, 5, 6]]), (42, [[], [], [], [2], [], [2, 3, 4], [2, 3, 4, 5], [0, 1, 2, 3, 4, 5, 6], [0, 1, 2, 3, 4, 5, 6, 7]]), (46, [[], [], [], [2], [2, 3], [2, 3, 4], [0, 1, 2, 3, 4, 5], [0, 1, 2, 3, 4, 5, 6], [0, 1, 2, 3, 4, 5, 6, 7]]), (51, [[], [0], [], [0, 1, 2], [0, 1, 2, 3], [], [5], [0, 1, 2, 3, 4, 5, 6]])] i).getD []
 spl := fun i => (asc [] i).getD []
 pre := fun i => (asc [] i).getD []
 join := asc []
 loop := asc [(506806140914, ⟨365364258960126464239350440319934430733230145856, [], [], [(8, .k (.d (.int .i64)))], [((.exit 1), []), (.ret, [(6, .k (.d (.bool)))])], bnd tb (.len (.ld 22 (.fld 72 4 (.slot 7)))) 1⟩),
  (2027224563698, ⟨95779509802480722744478485512061607693151539203932736, [], [], [(9, .k (.d (.int .i64)))], [((.exit 3), []), (.ret, [(6, .k (.d (.bool)))])], bnd tb (.len (.ld 22 (.fld 72 4 (.slot 7)))) 1⟩),
  (16217796509690, ⟨12855112035213460536787957001890350341026617553047063680255040, [], [], [(10, .k (.d (.int .i64)))], [((.exit 5), []), (.ret, [(6, .k (.d (.bool)))])], bnd tb (.len (.ld 26 (.fld 28 6 (.slot 3)))) 1⟩)]
 keep := asc []
def Y4 (n : Nat) : Row I := ⟨51, [.d (.dat 28), .d (.dat 36), .d (.int .i64)], [.k (.d (.bool))], w4 n⟩
def b4I (n : Nat) : Hints I where
 tds := fun i => (asc [(6, [[], [], [0, 1], [0, 1, 2], [], [], [], [5, 6], [5, 6, 7], [0, 1, 2, 3, 4, 5, 6, 7, 8], [0, 1, 2, 3, 4, 5, 6, 7, 8, 9]])] i).getD []
 spl := fun i => (asc [] i).getD []
 pre := fun i => (asc [] i).getD []
 join := asc []
 loop := asc [(58, ⟨1073733824, [], [], [(7, .k (.d (.int .i64)))], [((.exit 0), []), (.ret, [(6, .k (.d (.bool)))])], bnd tb (.len (.slot 0)) 1⟩)]
 keep := asc []
def J7 (n : Nat) : Row I := ⟨69, [.d (.sl 28), .d (.dat 36), .d (.sl 3)], [.k (.d (.bool))], a0h n⟩
theorem b3i (n : Nat) (h_semtyperef7_function : y4 Go.Proofs.Tryz.prog (a0f n)) (h_semtyperef7_mapping : y4 Go.Proofs.Tryz.prog (a0q n)) (h_semtyperef7_member : y4 Go.Proofs.Tryz.prog (Y4 n)) (h_semtyperef7_members : y4 Go.Proofs.Tryz.prog (J7 n)) : y4 Go.Proofs.Tryz.prog (a0f (n + 1)) :=
 j8 z7 (y9 (es := [j6 tb (J7 n), j6 tb (Y4 n)]) ⟨z8 z7 h_semtyperef7_members, ⟨z8 z7 h_semtyperef7_member, trivial⟩⟩ 3) mixed 54 (fn := Go.Proofs.Tryz.f80) (cd := v8 Go.Proofs.Tryz.f80) (H := (b36 n)) (rl := [.tmp 6]) Go.Proofs.Tryz.func80 (by kernel_rfl) (by kernel_rfl) (by kernel_rfl) (by kernel_rfl) (by kernel_rfl) (by kernel_rfl) (by kernel_rfl)
theorem b3v (n : Nat) (h_semtyperef7_function : y4 Go.Proofs.Tryz.prog (a0f n)) (h_semtyperef7_mapping : y4 Go.Proofs.Tryz.prog (a0q n)) (h_semtyperef7_member : y4 Go.Proofs.Tryz.prog (Y4 n)) (h_semtyperef7_members : y4 Go.Proofs.Tryz.prog (J7 n)) : y4 Go.Proofs.Tryz.prog (a0q (n + 1)) :=
 j8 z7 (y9 (es := [j6 tb (a99), j6 tb (a83), j6 tb (Y4 n)]) ⟨z8 z7 b7u, ⟨z8 z7 b56, ⟨z8 z7 h_semtyperef7_member, trivial⟩⟩⟩ 3) mixed 76 (fn := Go.Proofs.Tryz.f79) (cd := v8 Go.Proofs.Tryz.f79) (H := (b5j n)) (rl := [.tmp 6]) Go.Proofs.Tryz.func79 (by kernel_rfl) (by kernel_rfl) (by kernel_rfl) (by kernel_rfl) (by kernel_rfl) (by kernel_rfl) (by kernel_rfl)
theorem b4s (n : Nat) (h_semtyperef7_function : y4 Go.Proofs.Tryz.prog (a0f n)) (h_semtyperef7_mapping : y4 Go.Proofs.Tryz.prog (a0q n)) (h_semtyperef7_member : y4 Go.Proofs.Tryz.prog (Y4 n)) (h_semtyperef7_members : y4 Go.Proofs.Tryz.prog (J7 n)) : y4 Go.Proofs.Tryz.prog (Y4 (n + 1)) :=
 j8 z7 (y9 (es := [j6 tb (J7 n), j6 tb (a0q n), j6 tb (a0f n), j6 tb (Y4 n)]) ⟨z8 z7 h_semtyperef7_members, ⟨z8 z7 h_semtyperef7_mapping, ⟨z8 z7 h_semtyperef7_function, ⟨z8 z7 h_semtyperef7_member, trivial⟩⟩⟩⟩ 3) mixed 203 (fn := Go.Proofs.Tryz.f51) (cd := v8 Go.Proofs.Tryz.f51) (H := (b5O n)) (rl := [.tmp 6]) Go.Proofs.Tryz.func51 (by kernel_rfl) (by kernel_rfl) (by kernel_rfl) (by kernel_rfl) (by kernel_rfl) (by kernel_rfl) (by kernel_rfl)
theorem b3t (n : Nat) (h_semtyperef7_function : y4 Go.Proofs.Tryz.prog (a0f n)) (h_semtyperef7_mapping : y4 Go.Proofs.Tryz.prog (a0q n)) (h_semtyperef7_member : y4 Go.Proofs.Tryz.prog (Y4 n)) (h_semtyperef7_members : y4 Go.Proofs.Tryz.prog (J7 n)) : y4 Go.Proofs.Tryz.prog (J7 (n + 1)) :=
 j8 z7 (y9 (es := [j6 tb (Y4 n)]) ⟨z8 z7 h_semtyperef7_member, trivial⟩ 3) mixed 30 (fn := Go.Proofs.Tryz.f69) (cd := v8 Go.Proofs.Tryz.f69) (H := (b4I n)) (rl := [.tmp 6]) Go.Proofs.Tryz.func69 (by kernel_rfl) (by kernel_rfl) (by kernel_rfl) (by kernel_rfl) (by kernel_rfl) (by kernel_rfl) (by kernel_rfl)
theorem a3q : ∀ n : Nat, y4 Go.Proofs.Tryz.prog (a0f n) /\ y4 Go.Proofs.Tryz.prog (a0q n) /\ y4 Go.Proofs.Tryz.prog (Y4 n) /\ y4 Go.Proofs.Tryz.prog (J7 n)
 | 0 => ⟨Q9 (by kernel_rfl), Q9 (by kernel_rfl), Q9 (by kernel_rfl), Q9 (by kernel_rfl)⟩
 | n + 1 => by
   obtain ⟨h0, h1, h2, h3⟩ := a3q n
   exact ⟨b3i n h0 h1 h2 h3, b3v n h0 h1 h2 h3, b4s n h0 h1 h2 h3, b3t n h0 h1 h2 h3⟩
theorem a5K (n : Nat) : y4 Go.Proofs.Tryz.prog (Y4 n) := (a3q n).2.2.1
theorem b4d (n : Nat) : y4 Go.Proofs.Tryz.prog (J7 n) := (a3q n).2.2.2
def b5B (n : Nat) : Hints I where
 tds := fun i => (asc [(4, [[], [], [], [2], [], [2, 3, 4], [2, 3, 4, 5], [0, 1, 2, 3, 4, 5, 6], [0, 1, 2, 3, 4, 5, 6, 7]]), (9, [[], [], [], [2], [], [2, 3, 4], [2, 3, 4, 5], [0, 1, 2, 3, 4, 5, 6]])] i).getD []
 spl := fun i => (asc [] i).getD []
 pre := fun i => (asc [] i).getD []
 join := asc []
 loop := asc [(26, ⟨33554112, [], [], [(7, .k (.d (.int .i64)))], [((.exit 0), []), (.ret, [(6, .k (.d (.bool)))])], bnd tb (.len (.ld 22 (.fld 47 0 (.slot 5)))) 1⟩),
  (58, ⟨1099478073664, [], [], [(8, .k (.d (.int .i64)))], [((.exit 2), []), (.ret, [(6, .k (.d (.bool)))])], bnd tb (.len (.ld 22 (.fld 47 1 (.slot 5)))) 1⟩)]
 keep := asc []
def a8B (n : Nat) : Row I := ⟨40, [.d (.dat 28), .d (.dat 36), .d (.dat 47)], [.k (.d (.bool))], a7z n⟩
theorem b4D (n : Nat) : y4 Go.Proofs.Tryz.prog (a8B n) :=
 j8 z7 (y9 (es := [j6 tb (Y4 n)]) ⟨z8 z7 (a5K n), trivial⟩ 3) mixed 53 (fn := Go.Proofs.Tryz.f40) (cd := v8 Go.Proofs.Tryz.f40) (H := (b5B n)) (rl := [.tmp 6]) Go.Proofs.Tryz.func40 (by kernel_rfl) (by kernel_rfl) (by kernel_rfl) (by kernel_rfl) (by kernel_rfl) (by kernel_rfl) (by kernel_rfl)
def b5t (n : Nat) : Hints I where
 tds := fun i => (asc [] i).getD []
 spl := fun i => (asc [] i).getD []
 pre := fun i => (asc [] i).getD []
 join := asc []
 loop := asc []
 keep := asc []
def a5p (n : Nat) : Row I := ⟨15, [.d (.dat 28), .d (.dat 36), .d (.dat 47)], [.k (.d (.bool))], a1w n⟩
theorem a81 (n : Nat) : y4 Go.Proofs.Tryz.prog (a5p n) :=
 j8 z7 (y9 (es := [j6 tb (a0G n), j6 tb (a1Y n), j6 tb (a4U), j6 tb (a8B n)]) ⟨z8 z7 (a38 n), ⟨z8 z7 (a32 n), ⟨z8 z7 a8r, ⟨z8 z7 (b4D n), trivial⟩⟩⟩⟩ 3) mixed 25 (fn := Go.Proofs.Tryz.f15) (cd := v8 Go.Proofs.Tryz.f15) (H := (b5t n)) (rl := [.tmp 6]) Go.Proofs.Tryz.func15 (by kernel_rfl) (by kernel_rfl) (by kernel_rfl) (by kernel_rfl) (by kernel_rfl) (by kernel_rfl) (by kernel_rfl)
def b6H (n : Nat) : Hints I where
 tds := fun i => (asc [(6, [[], [], [0, 1], [0, 1, 2], [], [], [], [5, 6], [5, 6, 7], [0, 1, 2, 3, 4, 5, 6, 7, 8], [0, 1, 2, 3, 4, 5, 6, 7, 8, 9]])] i).getD []
 spl := fun i => (asc [] i).getD []
 pre := fun i => (asc [] i).getD []
 join := asc []
 loop := asc [(58, ⟨1073733824, [], [], [(7, .k (.d (.int .i64)))], [((.exit 0), []), (.ret, [(6, .k (.d (.bool)))])], bnd tb (.len (.slot 0)) 1⟩)]
 keep := asc []
def a8Z (n : Nat) : Row I := ⟨46, [.d (.sl 28), .d (.dat 36), .d (.sl 47)], [.k (.d (.bool))], a8b n⟩
theorem b5u (n : Nat) : y4 Go.Proofs.Tryz.prog (a8Z n) :=
 j8 z7 (y9 (es := [j6 tb (a5p n)]) ⟨z8 z7 (a81 n), trivial⟩ 3) mixed 30 (fn := Go.Proofs.Tryz.f46) (cd := v8 Go.Proofs.Tryz.f46) (H := (b6H n)) (rl := [.tmp 6]) Go.Proofs.Tryz.func46 (by kernel_rfl) (by kernel_rfl) (by kernel_rfl) (by kernel_rfl) (by kernel_rfl) (by kernel_rfl) (by kernel_rfl)
def b4W (n : Nat) : Hints I where
 tds := fun i => (asc [] i).getD []
 spl := fun i => (asc [] i).getD []
 pre := fun i => (asc [] i).getD []
 join := asc []
 loop := asc []
 keep := asc []
def a76 (n : Nat) : Row I := ⟨20, [.d (.dat 30), .d (.dat 36), .d (.dat 57)], [.k (.d (.bool))], a20 n⟩
theorem b4j (n : Nat) : y4 Go.Proofs.Tryz.prog (a76 n) :=
 j8 z7 (y9 (es := [j6 tb (a8Z n), j6 tb (a5p n)]) ⟨z8 z7 (b5u n), ⟨z8 z7 (a81 n), trivial⟩⟩ 3) mixed 32 (fn := Go.Proofs.Tryz.f20) (cd := v8 Go.Proofs.Tryz.f20) (H := (b4W n)) (rl := [.tmp 6]) Go.Proofs.Tryz.func20 (by kernel_rfl) (by kernel_rfl) (by kernel_rfl) (by kernel_rfl) (by kernel_rfl) (by kernel_rfl) (by kernel_rfl)
def b66 : Hints I where
 tds := fun i => (asc [(7, [[], [], [1], [0, 1, 2], [], [], [4, 5], [0, 1, 2, 3, 4, 5, 6], [0, 1, 2, 3, 4, 5, 6, 7]])] i).getD []
 spl := fun i => (asc [] i).getD []
 pre := fun i => (asc [] i).getD []
 join := asc []
 loop := asc [(28, ⟨2097056, [], [], [(5, .k (.d (.int .i64)))], [((.exit 0), [(5, .k (.d (.int .i64)))])], bnd tb (.len (.slot 0)) 1⟩)]
 keep := asc []
def a9q : Row I := ⟨75, [.d (.sl 3), .d (.int .i64)], [.k (.d (.sl 3))], a6B⟩
theorem b6F : y4 Go.Proofs.Tryz.prog (a9q) :=
 j8 z7 (y9 (es := []) trivial 3) mixed 46 (fn := Go.Proofs.Tryz.f75) (cd := v8 Go.Proofs.Tryz.f75) (H := b66) (rl := [.tmp 4]) Go.Proofs.Tryz.func75 (by kernel_rfl) (by kernel_rfl) (by kernel_rfl) (by kernel_rfl) (by kernel_rfl) (by kernel_rfl) (by kernel_rfl)
def b7P : Hints I where
 tds := fun i => (asc [] i).getD []
 spl := fun i => (asc [] i).getD []
 pre := fun i => (asc [] i).getD []
 join := asc []
 loop := asc [(58, ⟨131064, [], [], [(3, .k (.d (.sl 3))), (4, .k (.d (.int .i64)))], [((.exit 0), [(3, .k (.d (.sl 3)))])], bnd tb (.len (.slot 0)) 1⟩)]
 keep := asc []
def a9t : Row I := ⟨47, [.d (.sl 3)], [.k (.d (.sl 3))], a4v⟩
theorem b6p : y4 Go.Proofs.Tryz.prog (a9t) :=
 j8 z7 (y9 (es := [j6 tb (a9q)]) ⟨z8 z7 b6F, trivial⟩ 3) mixed 18 (fn := Go.Proofs.Tryz.f47) (cd := v8 Go.Proofs.Tryz.f47) (H := b7P) (rl := [.tmp 2]) Go.Proofs.Tryz.func47 (by kernel_rfl) (by kernel_rfl) (by kernel_rfl) (by kernel_rfl) (by kernel_rfl) (by kernel_rfl) (by kernel_rfl)
def b5H : Hints I where
 tds := fun i => (asc [(1, [[], [0], [0, 1], [], [3], [0, 1, 2, 3, 4], [], [6], [0, 1, 2, 3, 4, 5, 6, 7], [0, 1, 2, 3, 4, 5, 6, 7, 8]])] i).getD []
 spl := fun i => (asc [] i).getD []
 pre := fun i => (asc [] i).getD []
 join := asc []
 loop := asc []
 keep := asc []
def a8x : Row I := ⟨21, [.d (.dat 47)], [.k (.d (.dat 47))], a13⟩
theorem b4K : y4 Go.Proofs.Tryz.prog (a8x) :=
 j8 z7 (y9 (es := [j6 tb (a9t)]) ⟨z8 z7 b6p, trivial⟩ 3) mixed 12 (fn := Go.Proofs.Tryz.f21) (cd := v8 Go.Proofs.Tryz.f21) (H := b5H) (rl := [.cell 2 47]) Go.Proofs.Tryz.func21 (by kernel_rfl) (by kernel_rfl) (by kernel_rfl) (by kernel_rfl) (by kernel_rfl) (by kernel_rfl) (by kernel_rfl)
def b3U (n : Nat) : Hints I where
 tds := fun i => (asc [] i).getD []
 spl := fun i => (asc [] i).getD []
 pre := fun i => (asc [] i).getD []
 join := asc []
 loop := asc []
 keep := asc []
def a7o (n : Nat) : Row I := ⟨25, [.d (.dat 28), .d (.dat 36), .d (.int .i64)], [.k (.d (.bool))], a4b n⟩
theorem b3p (n : Nat) : y4 Go.Proofs.Tryz.prog (a7o n) :=
 j8 z7 (y9 (es := [j6 tb (a0G n), j6 tb (a1Y n), j6 tb (a1l), j6 tb (Y4 n)]) ⟨z8 z7 (a38 n), ⟨z8 z7 (a32 n), ⟨z8 z7 a2z, ⟨z8 z7 (a5K n), trivial⟩⟩⟩⟩ 3) mixed 25 (fn := Go.Proofs.Tryz.f25) (cd := v8 Go.Proofs.Tryz.f25) (H := (b3U n)) (rl := [.tmp 6]) Go.Proofs.Tryz.func25 (by kernel_rfl) (by kernel_rfl) (by kernel_rfl) (by kernel_rfl) (by kernel_rfl) (by kernel_rfl) (by kernel_rfl)
def b7n (n : Nat) : Hints I where
 tds := fun i => (asc [(3, [[], [0], [], [], [], [3, 4], [0, 1, 2, 3, 4, 5], [0, 1, 2, 3, 4, 5, 6]]), (5, [[], [0], [0, 1], [0, 1, 2], [0, 1, 2, 3], [0, 1, 2, 3, 4], [0, 1, 2, 3], [0, 1, 2, 3], [0, 1, 2, 3], [0, 1, 2, 3, 7, 8], [0, 1, 2, 3, 7, 8, 9], [0, 1, 2, 3, 4, 5, 6, 7, 8, 9, 10], [0, 1, 2, 3, 4, 5, 6, 7, 8, 9, 10, 11], [0, 1, 2, 3, 4, 5, 6, 7, 8, 9, 10, 11, 12]])] i).getD []
 spl := fun i => (asc [] i).getD []
 pre := fun i => (asc [] i).getD []
 join := asc []
 loop := asc []
 keep := asc []
def a9B (n : Nat) : Row I := ⟨38, [.d (.dat 30), .d (.dat 36), .d (.int .i64)], [.k (.d (.bool))], a6v n⟩
theorem b6D (n : Nat) : y4 Go.Proofs.Tryz.prog (a9B n) :=
 j8 z7 (y9 (es := [j6 tb (J7 n), j6 tb (Y4 n)]) ⟨z8 z7 (b4d n), ⟨z8 z7 (a5K n), trivial⟩⟩ 3) mixed 39 (fn := Go.Proofs.Tryz.f38) (cd := v8 Go.Proofs.Tryz.f38) (H := (b7n n)) (rl := [.tmp 6]) Go.Proofs.Tryz.func38 (by kernel_rfl) (by kernel_rfl) (by kernel_rfl) (by kernel_rfl) (by kernel_rfl) (by kernel_rfl) (by kernel_rfl)
def b4V (n : Nat) : Hints I where
 tds := fun i => (asc [(14, [[], [], [], [1, 2], [1, 2, 3], [0, 1, 2, 3, 4], [0, 1, 2, 3, 4, 5], [0, 1, 2, 3, 4, 5, 6], [0, 1, 2, 3, 4, 5, 6, 7], [0, 1, 2, 3, 4, 5, 6, 7, 8], [0, 1, 2, 3, 4, 5, 6, 7], [0, 1, 2, 3, 4, 5, 6, 7], [0, 1, 2, 3, 4, 5, 6, 7, 10, 11], [0, 1, 2, 3, 4, 5, 6, 7, 10, 11, 12], [0, 1, 2, 3, 4, 5, 6, 7, 8, 9, 10, 11, 12, 13], [0, 1, 2, 3, 4, 5, 6, 7, 8, 9, 10, 11, 12, 13, 14], [0, 1, 2, 3, 4, 5, 6, 7, 8, 9, 10, 11, 12, 13, 14, 15], [0, 1, 2, 3, 4, 5, 6, 7, 8, 9, 10, 11, 12, 13, 14, 15, 16], [0, 1, 2, 3, 4, 5, 6, 7, 8, 9, 10, 11, 12, 13, 14, 15, 16, 17], [0, 1, 2, 3, 4, 5, 6, 7, 8, 9, 10, 11, 12, 13, 14, 15, 16, 17, 18], [0, 1, 2, 3, 4, 5, 6, 7, 8, 9, 10, 11, 12, 13, 14, 15, 16, 17, 18, 19], [0, 1, 2, 3, 4, 5, 6, 7, 8, 9, 10, 11, 12, 13, 14, 15, 16, 17, 18, 19, 20], [0, 1, 2, 3, 4, 5, 6, 7, 8, 9, 10, 11, 12, 13, 14, 15, 16, 17, 18, 19], [0, 1, 2, 3, 4, 5, 6, 7, 8, 9, 10, 11, 12, 13, 14, 15, 16, 17, 18, 19], [0, 1, 2, 3, 4, 5, 6, 7, 8, 9, 10, 11, 12, 13, 14, 15, 16, 17, 18, 19, 22, 23], [0, 1, 2, 3, 4, 5, 6, 7, 8, 9, 10, 11, 12, 13, 14, 15, 16, 17, 18, 19, 22, 23, 24], [0, 1, 2, 3, 4, 5, 6, 7, 8, 9, 10, 11, 12, 13, 14, 15, 16, 17, 18, 19, 20, 21, 22, 23, 24, 25], [0, 1, 2, 3, 4, 5, 6, 7, 8, 9, 10, 11, 12, 13, 14, 15, 16, 17, 18, 19, 20, 21, 22, 23, 24, 25, 26], [0, 1, 2, 3, 4, 5, 6, 7, 8, 9, 10, 11, 12, 13, 14, 15, 16, 17, 18, 19, 20, 21, 22, 23, 24, 25, 26, 27], [0, 1, 2, 3, 4, 5, 6, 7, 8, 9, 10, 11, 12, 13, 14, 15, 16, 17, 18, 19, 20, 21, 22, 23, 24, 25, 26, 27, 28], [0, 1, 2, 3, 4, 5, 6, 7, 8, 9, 10, 11, 12, 13, 14, 15, 16, 17, 18, 19], [0, 1, 2, 3, 4, 5, 6, 7, 8, 9, 10, 11, 12, 13, 14, 15, 16, 17, 18, 19, 30], [0, 1, 2, 3, 4, 5, 6, 7, 8, 9, 10, 11, 12, 13, 14, 15, 16, 17, 18, 19, 30, 31], [0, 1, 2, 3, 4, 5, 6, 7, 8, 9, 10, 11, 12, 13, 14, 15, 16, 17, 18, 19, 30, 31, 32], [0, 1, 2, 3, 4, 5, 6, 7, 8, 9, 10, 11, 12, 13, 14, 15, 16, 17, 18, 19, 20, 21, 22, 23, 24, 25, 26, 27, 28, 29, 30, 31, 32, 33], [0, 1, 2, 3, 4, 5, 6, 7, 8, 9, 10, 11, 12, 13, 14, 15, 16, 17, 18, 19, 20, 21, 22, 23, 24, 25, 26, 27, 28, 29, 30, 31, 32, 33, 34], [0, 1, 2, 3, 4, 5, 6, 7, 8, 9, 10, 11, 12, 13, 14, 15, 16, 17, 18, 19, 20, 21, 22, 23, 24, 25, 26, 27, 28, 29, 30, 31, 32, 33, 34, 35], [0, 1, 2, 3, 4, 5, 6, 7, 8, 9, 10, 11, 12, 13, 14, 15, 16, 17, 18, 19, 20, 21, 22, 23, 24, 25, 26, 27, 28, 29, 30, 31, 32, 33, 34, 35, 36], [0, 1, 2, 3, 4, 5, 6, 7, 8, 9, 10, 11, 12, 13, 14, 15, 16, 17, 18, 19, 20, 21, 22, 23, 24, 25, 26, 27, 28, 29, 30, 31, 32, 33, 34, 35, 36], [0, 1, 2, 3, 4, 5, 6, 7, 8, 9, 10, 11, 12, 13, 14, 15, 16, 17, 18, 19, 20, 21, 22, 23, 24, 25, 26, 27, 28, 29, 30, 31, 32, 33, 34, 35, 36], [0, 1, 2, 3, 4, 5, 6, 7, 8, 9, 10, 11, 12, 13, 14, 15, 16, 17, 18, 19, 20, 21, 22, 23, 24, 25, 26, 27, 28, 29, 30, 31, 32, 33, 34, 35, 36], [0, 1, 2, 3, 4, 5, 6, 7, 8, 9, 10, 11, 12, 13, 14, 15, 16, 17, 18, 19, 20, 21, 22, 23, 24, 25, 26, 27, 28, 29, 30, 31, 32, 33, 34, 35, 36, 39, 40], [0, 1, 2, 3, 4, 5, 6, 7, 8, 9, 10, 11, 12, 13, 14, 15, 16, 17, 18, 19, 20, 21, 22, 23, 24, 25, 26, 27, 28, 29, 30, 31, 32, 33, 34, 35, 36, 39, 40, 41], [0, 1, 2, 3, 4, 5, 6, 7, 8, 9, 10, 11, 12, 13, 14, 15, 16, 17, 18, 19, 20, 21, 22, 23, 24, 25, 26, 27, 28, 29, 30, 31, 32, 33, 34, 35, 36, 37, 38, 39, 40, 41, 42], [0, 1, 2, 3, 4, 5, 6, 7, 8, 9, 10, 11, 12, 13, 14, 15, 16, 17, 18, 19, 20, 21, 22, 23, 24, 25, 26, 27, 28, 29, 30, 31, 32, 33, 34, 35, 36, 37, 38, 39, 40, 41, 42, 43], [0, 1, 2, 3, 4, 5, 6, 7, 8, 9, 10, 11, 12, 13, 14, 15, 16, 17, 18, 19, 20, 21, 22, 23, 24, 25, 26, 27, 28, 29, 30, 31, 32, 33, 34, 35, 36, 37, 38, 39, 40, 41, 42, 43, 44]])] i).getD []
 spl := fun i => (asc [] i).getD []
 pre := fun i => (asc [] i).getD []
 join := asc [(29, ⟨2031744, [], [], [(.normal, [(7, .k (.row 28 false))])]⟩)]
 loop := asc [(250, ⟨549739036992, [7], [], [(8, .k (.d (.int .i64)))], [((.exit 0), []), (.ret, [(6, .k (.d (.bool)))])], bnd tb (.len (.slot 7)) 1⟩),
  (506, ⟨2475880078570760000042435136, [], [], [(9, .k (.d (.int .i64)))], [((.exit 2), []), (.ret, [(6, .k (.d (.bool)))])], bnd tb (.len (.slot 2)) 1⟩)]
 keep := asc []
def a78 (n : Nat) : Row I := ⟨13, [.d (.dat 30), .d (.dat 36), .d (.sl 3)], [.k (.d (.bool))], a2X n⟩
theorem b38 (n : Nat) : y4 Go.Proofs.Tryz.prog (a78 n) :=
 j8 z7 (y9 (es := [j6 tb (a1Y n), j6 tb (a7o n), j6 tb (a1l), j6 tb (a9B n)]) ⟨z8 z7 (a32 n), ⟨z8 z7 (b3p n), ⟨z8 z7 a2z, ⟨z8 z7 (b6D n), trivial⟩⟩⟩⟩ 3) mixed 91 (fn := Go.Proofs.Tryz.f13) (cd := v8 Go.Proofs.Tryz.f13) (H := (b4V n)) (rl := [.tmp 6]) Go.Proofs.Tryz.func13 (by kernel_rfl) (by kernel_rfl) (by kernel_rfl) (by kernel_rfl) (by kernel_rfl) (by kernel_rfl) (by kernel_rfl)
def b2c (n : Nat) : Hints I where
 tds := fun i => (asc [(13, [[], [0], [0, 1], [], [3], [3, 4], [0, 1, 2, 3, 4, 5], [0, 1, 2, 3, 4, 5, 6], [0, 1, 2, 3, 4, 5, 6, 7], [0, 1, 2, 3, 4, 5, 6, 7, 8], [0, 1, 2, 3, 4, 5, 6, 7, 8, 9], [0, 1, 2, 3, 4, 5, 6, 7, 8, 9, 10], [0, 1, 2, 3, 4, 5, 6, 7, 8, 9, 10, 11], [0, 1, 2, 3, 4, 5, 6, 7, 8, 9, 10], [0, 1, 2, 3, 4, 5, 6, 7, 8, 9, 10, 11, 12, 13], [0, 1, 2, 3, 4, 5, 6, 7, 8, 9, 10, 11, 12, 13, 14], [0, 1, 2, 3, 4, 5, 6, 7, 8, 9, 10, 11, 12, 13, 14, 15], [0, 1, 2, 3, 4, 5, 6, 7, 8, 9, 10, 11, 12, 13, 14, 15, 16], [0, 1, 2, 3, 4, 5, 6, 7, 8, 9, 10, 11, 12, 13, 14, 15, 16, 17], [0, 1, 2, 3, 4, 5, 6, 7, 8, 9, 10, 11, 12, 13, 14, 15, 16, 17, 18], [0, 1, 2, 3, 4, 5, 6, 7, 8, 9, 10, 11, 12, 13, 14, 15, 16, 17, 18], [0, 1, 2, 3, 4, 5, 6, 7, 8, 9, 10, 11, 12, 13, 14, 15, 16, 17, 18], [0, 1, 2, 3, 4, 5, 6, 7, 8, 9, 10, 11, 12, 13, 14, 15, 16, 17, 18, 19, 20, 21], [0, 1, 2, 3, 4, 5, 6, 7, 8, 9, 10, 11, 12, 13, 14, 15, 16, 17, 18], [0, 1, 2, 3, 4, 5, 6, 7, 8, 9, 10, 11, 12, 13, 14, 15, 16, 17, 18], [0, 1, 2, 3, 4, 5, 6, 7, 8, 9, 10, 11, 12, 13, 14, 15, 16, 17, 18], [0, 1, 2, 3, 4, 5, 6, 7, 8, 9, 10, 11, 12, 13, 14, 15, 16, 17, 18, 19, 20, 21, 22, 23, 24, 25], [0, 1, 2, 3, 4, 5, 6, 7, 8, 9, 10, 11, 12, 13, 14, 15, 16, 17, 18, 19, 20, 21, 22, 23, 24, 25, 26], [0, 1, 2, 3, 4, 5, 6, 7, 8, 9, 10, 11, 12, 13, 14, 15, 16, 17, 18, 19, 20, 21, 22, 23, 24, 25, 26, 27]]), (21, [[], [], [1], [0, 1, 2], [0, 1, 2, 3], [0, 1, 2, 3, 4], [0, 1, 2, 3, 4, 5], [0, 1, 2, 3, 4, 5], [0, 1, 2, 3, 4, 5, 6, 7], [0, 1, 2, 3, 4, 5, 6, 7, 8], [0, 1, 2, 3, 4, 5, 6, 7, 8, 9]])] i).getD []
 spl := fun i => (asc [(24, [141])] i).getD []
 pre := fun i => (asc [] i).getD []
 join := asc [(133844261, ⟨321922405229159312968890772411645952, [], [(17, .k (.d (.dat 47)))], [(.normal, [])]⟩)]
 loop := asc [(2042, ⟨87112285931760246646622746581028055539776, [11], [], [(13, .k (.d (.bool))), (14, .k (.d (.int .i64)))], [((.exit 0), [(13, .k (.d (.bool)))]), (.ret, [(6, .k (.d (.bool)))])], bnd tb (.len (.slot 11)) 1⟩),
  (1045658, ⟨680564733208051626812634514115185016896, [], [], [(16, .k (.d (.int .i64)))], [((.exit 2), []), (.ret, [(6, .k (.d (.bool)))])], bnd tb (.len (.ld 55 (.fld 57 0 (.slot 15)))) 2⟩)]
 keep := asc []
def b0Z (n : Nat) : Row I := ⟨6, [.d (.sl 3), .d (.sl 3), .d (.int .i64)], [.k (.d (.bool))], a2O n⟩
theorem b1D (n : Nat) : y4 Go.Proofs.Tryz.prog (b0Z n) :=
 j8 z7 (y9 (es := [j6 tb (a8y), j6 tb (a8l n), j6 tb (a8X n), j6 tb (a9O n), j6 tb (a6J), j6 tb (b3o n), j6 tb (a76 n), j6 tb (a8x), j6 tb (a4U), j6 tb (a78 n)]) ⟨z8 z7 b4Q, ⟨z8 z7 (b4M n), ⟨z8 z7 (b55 n), ⟨z8 z7 (b4S n), ⟨z8 z7 b2m, ⟨z8 z7 (c0f n), ⟨z8 z7 (b4j n), ⟨z8 z7 b4K, ⟨z8 z7 a8r, ⟨z8 z7 (b38 n), trivial⟩⟩⟩⟩⟩⟩⟩⟩⟩⟩ 3) mixed 154 (fn := Go.Proofs.Tryz.f6) (cd := v8 Go.Proofs.Tryz.f6) (H := (b2c n)) (rl := [.tmp 6]) Go.Proofs.Tryz.func6 (by kernel_rfl) (by kernel_rfl) (by kernel_rfl) (by kernel_rfl) (by kernel_rfl) (by kernel_rfl) (by kernel_rfl)
end Go.Qx
end
section
namespace Go.Pl
open Go Go.RowKit Go.Sx Go.Qx
def b7O (_ : Int) : Nat := 1
def c3m (l : List Int) : Nat := (l.map b7O).sum + 1
end Go.Pl
end
section
namespace Go.Pl
open Go Go.RowKit Go.Sx Go.Qx Go.Proofs.YtdipagkcdpcnbaaGreat
section
variable {H : Type} {enc : TypeId × Value -> H} {w : World} {base : Nat} {spare : Nat -> Bool} {held : Bool}
theorem c9r {n : Nat} {cs : List Value} {x : DataW H × List MemPlace} (h : DataW.trod enc Go.Proofs.Tryz.prog w base spare held n 3 cs = some x) : ∃ d : Int, (rpK .i64).cells (b0i w) d cs /\ b7O d <= Rows.uptoBulk x.1 := by
 obtain ⟨k, e0, rfl, _⟩ := DataW.trod_int Go.Proofs.Tryz.underlying3 h
 exact ⟨k, e0, by simp [b7O, Rows.uptoBulk]⟩
end
end Go.Pl
end
