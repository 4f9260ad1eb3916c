/- What functions that range over an iterator answer. · The tables say what the program says (written by tools/facts.py). -/
import Derived.Test.YtkenjojkpdeooaaGreatDoorL8
import Derived.Test.YtkenjojkpdeooaaGreatDoorM7
import Derived.Test.YtkenjojkpdeooaaGreatDoorM5
import Derived.WalkKit
section
set_option linter.unusedVariables false
set_option linter.unusedSimpArgs false
set_option linter.constructorNameAsVariable false
namespace Go.Proofs.YtkenjojkpdeooaaGreatDoor
open AI Units
def atA : Option (Nat × Nat × Nat) → AV
  | some (r, p, q) => .tup [.int .i32 (r : Int), .int .i64 (p : Int), .int .i64 (q : Int), .bool true]
  | none => .tup [.int .i32 0, .int .i64 0, .int .i64 0, .bool false]
def small (s : ByteArray) : Bool := Nat.ble s.size 140737488355328
def ext (f : FuncId) : Option (List AV → Mem → Option (AV × Mem)) :=
  match f with
  | 50 => some fun a m => match a, m with
    | [.str s, .int .i64 (.ofNat i)], [] => bif small s && Nat.blt i 9223372036854775808 then some (atA (unitsF s s.size 0)[i]?, []) else none
    | _, _ => none
  | 101 => some fun a m => match a, m with
    | [.str s], [] => bif small s then some (.bool ((unitsF s s.size 0).all okU), []) else none
    | _, _ => none
  | _ => none
end Go.Proofs.YtkenjojkpdeooaaGreatDoor
end
section
set_option linter.unusedVariables false
set_option maxRecDepth 100000
set_option linter.unusedSimpArgs false
set_option linter.constructorNameAsVariable false
namespace Go.Proofs.YtkenjojkpdeooaaGreatDoor
open AI
def Tree.All {α : Type} (Q : Nat → α → Prop) : Tree α → Prop
  | .leaf => True
  | .node k v l r => Q k v ∧ l.All Q ∧ r.All Q
theorem Tree.get_all {α : Type} {Q : Nat → α → Prop} : ∀ (t : Tree α) (x : Nat) (v : α), t.All Q → t.get x = some v → Q x v
  | .leaf, x, v, _, h => by cases h
  | .node k u l r, x, v, ⟨h1, h2, h3⟩, h => by
    unfold Tree.get at h
    cases e : Nat.beq x k with
    | true =>
      rw [e] at h
      cases h
      rw [Nat.eq_of_beq_eq_true e]
      exact h1
    | false =>
      rw [e] at h
      cases e2 : Nat.blt x k with
      | true => rw [e2] at h; exact Tree.get_all l x v h2 h
      | false => rw [e2] at h; exact Tree.get_all r x v h3 h
structure FnOK (k : Nat) (f : Func) : Prop where
  fn : Tryz.prog.funcs[k]? = some f
  name : (f.name == "runtime.NumGoroutine") = false
  body : f.body.isSome = true
  ok : funcOk f = true
theorem fn3 : FnOK 3 Tryz.f3 := ⟨Tryz.func3, by kernel_rfl, rfl, by kernel_rfl⟩
theorem fn4 : FnOK 4 Tryz.f4 := ⟨Tryz.func4, by kernel_rfl, rfl, by kernel_rfl⟩
theorem fn5 : FnOK 5 Tryz.f5 := ⟨Tryz.func5, by kernel_rfl, rfl, by kernel_rfl⟩
theorem fn6 : FnOK 6 Tryz.f6 := ⟨Tryz.func6, by kernel_rfl, rfl, by kernel_rfl⟩
theorem fn7 : FnOK 7 Tryz.f7 := ⟨Tryz.func7, by kernel_rfl, rfl, by kernel_rfl⟩
theorem fn8 : FnOK 8 Tryz.f8 := ⟨Tryz.func8, by kernel_rfl, rfl, by kernel_rfl⟩
theorem fn9 : FnOK 9 Tryz.f9 := ⟨Tryz.func9, by kernel_rfl, rfl, by kernel_rfl⟩
theorem fn10 : FnOK 10 Tryz.f10 := ⟨Tryz.func10, by kernel_rfl, rfl, by kernel_rfl⟩
theorem fn11 : FnOK 11 Tryz.f11 := ⟨Tryz.func11, by kernel_rfl, rfl, by kernel_rfl⟩
theorem fn12 : FnOK 12 Tryz.f12 := ⟨Tryz.func12, by kernel_rfl, rfl, by kernel_rfl⟩
theorem fn13 : FnOK 13 Tryz.f13 := ⟨Tryz.func13, by kernel_rfl, rfl, by kernel_rfl⟩
theorem fn14 : FnOK 14 Tryz.f14 := ⟨Tryz.func14, by kernel_rfl, rfl, by kernel_rfl⟩
theorem fn15 : FnOK 15 Tryz.f15 := ⟨Tryz.func15, by kernel_rfl, rfl, by kernel_rfl⟩
theorem fn16 : FnOK 16 Tryz.f16 := ⟨Tryz.func16, by kernel_rfl, rfl, by kernel_rfl⟩
theorem fn17 : FnOK 17 Tryz.f17 := ⟨Tryz.func17, by kernel_rfl, rfl, by kernel_rfl⟩
theorem fn18 : FnOK 18 Tryz.f18 := ⟨Tryz.func18, by kernel_rfl, rfl, by kernel_rfl⟩
theorem fn19 : FnOK 19 Tryz.f19 := ⟨Tryz.func19, by kernel_rfl, rfl, by kernel_rfl⟩
theorem fn20 : FnOK 20 Tryz.f20 := ⟨Tryz.func20, by kernel_rfl, rfl, by kernel_rfl⟩
theorem fn21 : FnOK 21 Tryz.f21 := ⟨Tryz.func21, by kernel_rfl, rfl, by kernel_rfl⟩
theorem fn22 : FnOK 22 Tryz.f22 := ⟨Tryz.func22, by kernel_rfl, rfl, by kernel_rfl⟩
theorem fn23 : FnOK 23 Tryz.f23 := ⟨Tryz.func23, by kernel_rfl, rfl, by kernel_rfl⟩
theorem fn24 : FnOK 24 Tryz.f24 := ⟨Tryz.func24, by kernel_rfl, rfl, by kernel_rfl⟩
theorem fn25 : FnOK 25 Tryz.f25 := ⟨Tryz.func25, by kernel_rfl, rfl, by kernel_rfl⟩
theorem fn26 : FnOK 26 Tryz.f26 := ⟨Tryz.func26, by kernel_rfl, rfl, by kernel_rfl⟩
theorem fn27 : FnOK 27 Tryz.f27 := ⟨Tryz.func27, by kernel_rfl, rfl, by kernel_rfl⟩
theorem fn28 : FnOK 28 Tryz.f28 := ⟨Tryz.func28, by kernel_rfl, rfl, by kernel_rfl⟩
theorem fn29 : FnOK 29 Tryz.f29 := ⟨Tryz.func29, by kernel_rfl, rfl, by kernel_rfl⟩
theorem fn30 : FnOK 30 Tryz.f30 := ⟨Tryz.func30, by kernel_rfl, rfl, by kernel_rfl⟩
theorem fn31 : FnOK 31 Tryz.f31 := ⟨Tryz.func31, by kernel_rfl, rfl, by kernel_rfl⟩
theorem fn32 : FnOK 32 Tryz.f32 := ⟨Tryz.func32, by kernel_rfl, rfl, by kernel_rfl⟩
theorem fn33 : FnOK 33 Tryz.f33 := ⟨Tryz.func33, by kernel_rfl, rfl, by kernel_rfl⟩
theorem fn34 : FnOK 34 Tryz.f34 := ⟨Tryz.func34, by kernel_rfl, rfl, by kernel_rfl⟩
theorem fn35 : FnOK 35 Tryz.f35 := ⟨Tryz.func35, by kernel_rfl, rfl, by kernel_rfl⟩
theorem fn36 : FnOK 36 Tryz.f36 := ⟨Tryz.func36, by kernel_rfl, rfl, by kernel_rfl⟩
theorem fn37 : FnOK 37 Tryz.f37 := ⟨Tryz.func37, by kernel_rfl, rfl, by kernel_rfl⟩
theorem fn38 : FnOK 38 Tryz.f38 := ⟨Tryz.func38, by kernel_rfl, rfl, by kernel_rfl⟩
theorem fn39 : FnOK 39 Tryz.f39 := ⟨Tryz.func39, by kernel_rfl, rfl, by kernel_rfl⟩
theorem fn40 : FnOK 40 Tryz.f40 := ⟨Tryz.func40, by kernel_rfl, rfl, by kernel_rfl⟩
theorem fn41 : FnOK 41 Tryz.f41 := ⟨Tryz.func41, by kernel_rfl, rfl, by kernel_rfl⟩
theorem fn42 : FnOK 42 Tryz.f42 := ⟨Tryz.func42, by kernel_rfl, rfl, by kernel_rfl⟩
theorem fn43 : FnOK 43 Tryz.f43 := ⟨Tryz.func43, by kernel_rfl, rfl, by kernel_rfl⟩
theorem fn44 : FnOK 44 Tryz.f44 := ⟨Tryz.func44, by kernel_rfl, rfl, by kernel_rfl⟩
theorem fn45 : FnOK 45 Tryz.f45 := ⟨Tryz.func45, by kernel_rfl, rfl, by kernel_rfl⟩
theorem fn46 : FnOK 46 Tryz.f46 := ⟨Tryz.func46, by kernel_rfl, rfl, by kernel_rfl⟩
theorem fn47 : FnOK 47 Tryz.f47 := ⟨Tryz.func47, by kernel_rfl, rfl, by kernel_rfl⟩
theorem fn48 : FnOK 48 Tryz.f48 := ⟨Tryz.func48, by kernel_rfl, rfl, by kernel_rfl⟩
theorem fn49 : FnOK 49 Tryz.f49 := ⟨Tryz.func49, by kernel_rfl, rfl, by kernel_rfl⟩
theorem fn50 : FnOK 50 Tryz.f50 := ⟨Tryz.func50, by kernel_rfl, rfl, by kernel_rfl⟩
theorem fn51 : FnOK 51 Tryz.f51 := ⟨Tryz.func51, by kernel_rfl, rfl, by kernel_rfl⟩
theorem fn52 : FnOK 52 Tryz.f52 := ⟨Tryz.func52, by kernel_rfl, rfl, by kernel_rfl⟩
theorem fn53 : FnOK 53 Tryz.f53 := ⟨Tryz.func53, by kernel_rfl, rfl, by kernel_rfl⟩
theorem fn54 : FnOK 54 Tryz.f54 := ⟨Tryz.func54, by kernel_rfl, rfl, by kernel_rfl⟩
theorem fn55 : FnOK 55 Tryz.f55 := ⟨Tryz.func55, by kernel_rfl, rfl, by kernel_rfl⟩
theorem fn56 : FnOK 56 Tryz.f56 := ⟨Tryz.func56, by kernel_rfl, rfl, by kernel_rfl⟩
theorem fn57 : FnOK 57 Tryz.f57 := ⟨Tryz.func57, by kernel_rfl, rfl, by kernel_rfl⟩
theorem fn58 : FnOK 58 Tryz.f58 := ⟨Tryz.func58, by kernel_rfl, rfl, by kernel_rfl⟩
theorem fn59 : FnOK 59 Tryz.f59 := ⟨Tryz.func59, by kernel_rfl, rfl, by kernel_rfl⟩
theorem fn60 : FnOK 60 Tryz.f60 := ⟨Tryz.func60, by kernel_rfl, rfl, by kernel_rfl⟩
theorem fn61 : FnOK 61 Tryz.f61 := ⟨Tryz.func61, by kernel_rfl, rfl, by kernel_rfl⟩
theorem fn62 : FnOK 62 Tryz.f62 := ⟨Tryz.func62, by kernel_rfl, rfl, by kernel_rfl⟩
theorem fn63 : FnOK 63 Tryz.f63 := ⟨Tryz.func63, by kernel_rfl, rfl, by kernel_rfl⟩
theorem fn64 : FnOK 64 Tryz.f64 := ⟨Tryz.func64, by kernel_rfl, rfl, by kernel_rfl⟩
theorem fn65 : FnOK 65 Tryz.f65 := ⟨Tryz.func65, by kernel_rfl, rfl, by kernel_rfl⟩
theorem fn66 : FnOK 66 Tryz.f66 := ⟨Tryz.func66, by kernel_rfl, rfl, by kernel_rfl⟩
theorem fn67 : FnOK 67 Tryz.f67 := ⟨Tryz.func67, by kernel_rfl, rfl, by kernel_rfl⟩
theorem fn68 : FnOK 68 Tryz.f68 := ⟨Tryz.func68, by kernel_rfl, rfl, by kernel_rfl⟩
theorem fn69 : FnOK 69 Tryz.f69 := ⟨Tryz.func69, by kernel_rfl, rfl, by kernel_rfl⟩
theorem fn70 : FnOK 70 Tryz.f70 := ⟨Tryz.func70, by kernel_rfl, rfl, by kernel_rfl⟩
theorem fn71 : FnOK 71 Tryz.f71 := ⟨Tryz.func71, by kernel_rfl, rfl, by kernel_rfl⟩
theorem fn72 : FnOK 72 Tryz.f72 := ⟨Tryz.func72, by kernel_rfl, rfl, by kernel_rfl⟩
theorem fn73 : FnOK 73 Tryz.f73 := ⟨Tryz.func73, by kernel_rfl, rfl, by kernel_rfl⟩
theorem fn74 : FnOK 74 Tryz.f74 := ⟨Tryz.func74, by kernel_rfl, rfl, by kernel_rfl⟩
theorem fn75 : FnOK 75 Tryz.f75 := ⟨Tryz.func75, by kernel_rfl, rfl, by kernel_rfl⟩
theorem fn76 : FnOK 76 Tryz.f76 := ⟨Tryz.func76, by kernel_rfl, rfl, by kernel_rfl⟩
theorem fn77 : FnOK 77 Tryz.f77 := ⟨Tryz.func77, by kernel_rfl, rfl, by kernel_rfl⟩
theorem fn78 : FnOK 78 Tryz.f78 := ⟨Tryz.func78, by kernel_rfl, rfl, by kernel_rfl⟩
theorem fn79 : FnOK 79 Tryz.f79 := ⟨Tryz.func79, by kernel_rfl, rfl, by kernel_rfl⟩
theorem fn80 : FnOK 80 Tryz.f80 := ⟨Tryz.func80, by kernel_rfl, rfl, by kernel_rfl⟩
theorem fn81 : FnOK 81 Tryz.f81 := ⟨Tryz.func81, by kernel_rfl, rfl, by kernel_rfl⟩
theorem fn82 : FnOK 82 Tryz.f82 := ⟨Tryz.func82, by kernel_rfl, rfl, by kernel_rfl⟩
theorem fn83 : FnOK 83 Tryz.f83 := ⟨Tryz.func83, by kernel_rfl, rfl, by kernel_rfl⟩
theorem fn84 : FnOK 84 Tryz.f84 := ⟨Tryz.func84, by kernel_rfl, rfl, by kernel_rfl⟩
theorem fn85 : FnOK 85 Tryz.f85 := ⟨Tryz.func85, by kernel_rfl, rfl, by kernel_rfl⟩
theorem fn86 : FnOK 86 Tryz.f86 := ⟨Tryz.func86, by kernel_rfl, rfl, by kernel_rfl⟩
theorem fn87 : FnOK 87 Tryz.f87 := ⟨Tryz.func87, by kernel_rfl, rfl, by kernel_rfl⟩
theorem fn88 : FnOK 88 Tryz.f88 := ⟨Tryz.func88, by kernel_rfl, rfl, by kernel_rfl⟩
theorem fn89 : FnOK 89 Tryz.f89 := ⟨Tryz.func89, by kernel_rfl, rfl, by kernel_rfl⟩
theorem fn90 : FnOK 90 Tryz.f90 := ⟨Tryz.func90, by kernel_rfl, rfl, by kernel_rfl⟩
theorem fn91 : FnOK 91 Tryz.f91 := ⟨Tryz.func91, by kernel_rfl, rfl, by kernel_rfl⟩
theorem fn92 : FnOK 92 Tryz.f92 := ⟨Tryz.func92, by kernel_rfl, rfl, by kernel_rfl⟩
theorem fn93 : FnOK 93 Tryz.f93 := ⟨Tryz.func93, by kernel_rfl, rfl, by kernel_rfl⟩
theorem fn94 : FnOK 94 Tryz.f94 := ⟨Tryz.func94, by kernel_rfl, rfl, by kernel_rfl⟩
theorem fn95 : FnOK 95 Tryz.f95 := ⟨Tryz.func95, by kernel_rfl, rfl, by kernel_rfl⟩
theorem fn96 : FnOK 96 Tryz.f96 := ⟨Tryz.func96, by kernel_rfl, rfl, by kernel_rfl⟩
theorem fn97 : FnOK 97 Tryz.f97 := ⟨Tryz.func97, by kernel_rfl, rfl, by kernel_rfl⟩
theorem fn98 : FnOK 98 Tryz.f98 := ⟨Tryz.func98, by kernel_rfl, rfl, by kernel_rfl⟩
theorem fn99 : FnOK 99 Tryz.f99 := ⟨Tryz.func99, by kernel_rfl, rfl, by kernel_rfl⟩
theorem fn100 : FnOK 100 Tryz.f100 := ⟨Tryz.func100, by kernel_rfl, rfl, by kernel_rfl⟩
theorem fn101 : FnOK 101 Tryz.f101 := ⟨Tryz.func101, by kernel_rfl, rfl, by kernel_rfl⟩
theorem fn102 : FnOK 102 Tryz.f102 := ⟨Tryz.func102, by kernel_rfl, rfl, by kernel_rfl⟩
theorem fn103 : FnOK 103 Tryz.f103 := ⟨Tryz.func103, by kernel_rfl, rfl, by kernel_rfl⟩
theorem fn104 : FnOK 104 Tryz.f104 := ⟨Tryz.func104, by kernel_rfl, rfl, by kernel_rfl⟩
theorem fn105 : FnOK 105 Tryz.f105 := ⟨Tryz.func105, by kernel_rfl, rfl, by kernel_rfl⟩
theorem fn106 : FnOK 106 Tryz.f106 := ⟨Tryz.func106, by kernel_rfl, rfl, by kernel_rfl⟩
theorem fn107 : FnOK 107 Tryz.f107 := ⟨Tryz.func107, by kernel_rfl, rfl, by kernel_rfl⟩
theorem fn108 : FnOK 108 Tryz.f108 := ⟨Tryz.func108, by kernel_rfl, rfl, by kernel_rfl⟩
theorem fn109 : FnOK 109 Tryz.f109 := ⟨Tryz.func109, by kernel_rfl, rfl, by kernel_rfl⟩
theorem fn110 : FnOK 110 Tryz.f110 := ⟨Tryz.func110, by kernel_rfl, rfl, by kernel_rfl⟩
theorem fn111 : FnOK 111 Tryz.f111 := ⟨Tryz.func111, by kernel_rfl, rfl, by kernel_rfl⟩
theorem fn112 : FnOK 112 Tryz.f112 := ⟨Tryz.func112, by kernel_rfl, rfl, by kernel_rfl⟩
theorem fn113 : FnOK 113 Tryz.f113 := ⟨Tryz.func113, by kernel_rfl, rfl, by kernel_rfl⟩
theorem fn114 : FnOK 114 Tryz.f114 := ⟨Tryz.func114, by kernel_rfl, rfl, by kernel_rfl⟩
theorem fn115 : FnOK 115 Tryz.f115 := ⟨Tryz.func115, by kernel_rfl, rfl, by kernel_rfl⟩
theorem fn116 : FnOK 116 Tryz.f116 := ⟨Tryz.func116, by kernel_rfl, rfl, by kernel_rfl⟩
theorem fn117 : FnOK 117 Tryz.f117 := ⟨Tryz.func117, by kernel_rfl, rfl, by kernel_rfl⟩
theorem fn118 : FnOK 118 Tryz.f118 := ⟨Tryz.func118, by kernel_rfl, rfl, by kernel_rfl⟩
theorem fn119 : FnOK 119 Tryz.f119 := ⟨Tryz.func119, by kernel_rfl, rfl, by kernel_rfl⟩
theorem fn120 : FnOK 120 Tryz.f120 := ⟨Tryz.func120, by kernel_rfl, rfl, by kernel_rfl⟩
theorem fn121 : FnOK 121 Tryz.f121 := ⟨Tryz.func121, by kernel_rfl, rfl, by kernel_rfl⟩
theorem fn122 : FnOK 122 Tryz.f122 := ⟨Tryz.func122, by kernel_rfl, rfl, by kernel_rfl⟩
theorem fn123 : FnOK 123 Tryz.f123 := ⟨Tryz.func123, by kernel_rfl, rfl, by kernel_rfl⟩
theorem fn124 : FnOK 124 Tryz.f124 := ⟨Tryz.func124, by kernel_rfl, rfl, by kernel_rfl⟩
theorem fn125 : FnOK 125 Tryz.f125 := ⟨Tryz.func125, by kernel_rfl, rfl, by kernel_rfl⟩
theorem fn126 : FnOK 126 Tryz.f126 := ⟨Tryz.func126, by kernel_rfl, rfl, by kernel_rfl⟩
theorem fn127 : FnOK 127 Tryz.f127 := ⟨Tryz.func127, by kernel_rfl, rfl, by kernel_rfl⟩
theorem fn128 : FnOK 128 Tryz.f128 := ⟨Tryz.func128, by kernel_rfl, rfl, by kernel_rfl⟩
theorem fn129 : FnOK 129 Tryz.f129 := ⟨Tryz.func129, by kernel_rfl, rfl, by kernel_rfl⟩
theorem fn130 : FnOK 130 Tryz.f130 := ⟨Tryz.func130, by kernel_rfl, rfl, by kernel_rfl⟩
theorem fn131 : FnOK 131 Tryz.f131 := ⟨Tryz.func131, by kernel_rfl, rfl, by kernel_rfl⟩
theorem fn132 : FnOK 132 Tryz.f132 := ⟨Tryz.func132, by kernel_rfl, rfl, by kernel_rfl⟩
theorem fn133 : FnOK 133 Tryz.f133 := ⟨Tryz.func133, by kernel_rfl, rfl, by kernel_rfl⟩
theorem fn134 : FnOK 134 Tryz.f134 := ⟨Tryz.func134, by kernel_rfl, rfl, by kernel_rfl⟩
theorem fn135 : FnOK 135 Tryz.f135 := ⟨Tryz.func135, by kernel_rfl, rfl, by kernel_rfl⟩
theorem fn136 : FnOK 136 Tryz.f136 := ⟨Tryz.func136, by kernel_rfl, rfl, by kernel_rfl⟩
theorem fn137 : FnOK 137 Tryz.f137 := ⟨Tryz.func137, by kernel_rfl, rfl, by kernel_rfl⟩
theorem fn138 : FnOK 138 Tryz.f138 := ⟨Tryz.func138, by kernel_rfl, rfl, by kernel_rfl⟩
theorem fn139 : FnOK 139 Tryz.f139 := ⟨Tryz.func139, by kernel_rfl, rfl, by kernel_rfl⟩
theorem fn140 : FnOK 140 Tryz.f140 := ⟨Tryz.func140, by kernel_rfl, rfl, by kernel_rfl⟩
theorem fn141 : FnOK 141 Tryz.f141 := ⟨Tryz.func141, by kernel_rfl, rfl, by kernel_rfl⟩
theorem fn142 : FnOK 142 Tryz.f142 := ⟨Tryz.func142, by kernel_rfl, rfl, by kernel_rfl⟩
theorem fn143 : FnOK 143 Tryz.f143 := ⟨Tryz.func143, by kernel_rfl, rfl, by kernel_rfl⟩
theorem fn144 : FnOK 144 Tryz.f144 := ⟨Tryz.func144, by kernel_rfl, rfl, by kernel_rfl⟩
theorem fn145 : FnOK 145 Tryz.f145 := ⟨Tryz.func145, by kernel_rfl, rfl, by kernel_rfl⟩
theorem fn146 : FnOK 146 Tryz.f146 := ⟨Tryz.func146, by kernel_rfl, rfl, by kernel_rfl⟩
theorem fn147 : FnOK 147 Tryz.f147 := ⟨Tryz.func147, by kernel_rfl, rfl, by kernel_rfl⟩
theorem fn148 : FnOK 148 Tryz.f148 := ⟨Tryz.func148, by kernel_rfl, rfl, by kernel_rfl⟩
theorem fn149 : FnOK 149 Tryz.f149 := ⟨Tryz.func149, by kernel_rfl, rfl, by kernel_rfl⟩
theorem fn150 : FnOK 150 Tryz.f150 := ⟨Tryz.func150, by kernel_rfl, rfl, by kernel_rfl⟩
theorem fn151 : FnOK 151 Tryz.f151 := ⟨Tryz.func151, by kernel_rfl, rfl, by kernel_rfl⟩
theorem fn152 : FnOK 152 Tryz.f152 := ⟨Tryz.func152, by kernel_rfl, rfl, by kernel_rfl⟩
theorem fn153 : FnOK 153 Tryz.f153 := ⟨Tryz.func153, by kernel_rfl, rfl, by kernel_rfl⟩
theorem fn154 : FnOK 154 Tryz.f154 := ⟨Tryz.func154, by kernel_rfl, rfl, by kernel_rfl⟩
theorem fn155 : FnOK 155 Tryz.f155 := ⟨Tryz.func155, by kernel_rfl, rfl, by kernel_rfl⟩
theorem fn156 : FnOK 156 Tryz.f156 := ⟨Tryz.func156, by kernel_rfl, rfl, by kernel_rfl⟩
theorem fn157 : FnOK 157 Tryz.f157 := ⟨Tryz.func157, by kernel_rfl, rfl, by kernel_rfl⟩
theorem fn158 : FnOK 158 Tryz.f158 := ⟨Tryz.func158, by kernel_rfl, rfl, by kernel_rfl⟩
theorem fn159 : FnOK 159 Tryz.f159 := ⟨Tryz.func159, by kernel_rfl, rfl, by kernel_rfl⟩
theorem fn160 : FnOK 160 Tryz.f160 := ⟨Tryz.func160, by kernel_rfl, rfl, by kernel_rfl⟩
theorem fn161 : FnOK 161 Tryz.f161 := ⟨Tryz.func161, by kernel_rfl, rfl, by kernel_rfl⟩
theorem fn162 : FnOK 162 Tryz.f162 := ⟨Tryz.func162, by kernel_rfl, rfl, by kernel_rfl⟩
theorem fn164 : FnOK 164 Tryz.f164 := ⟨Tryz.func164, by kernel_rfl, rfl, by kernel_rfl⟩
theorem fn165 : FnOK 165 Tryz.f165 := ⟨Tryz.func165, by kernel_rfl, rfl, by kernel_rfl⟩
theorem fn166 : FnOK 166 Tryz.f166 := ⟨Tryz.func166, by kernel_rfl, rfl, by kernel_rfl⟩
theorem fn167 : FnOK 167 Tryz.f167 := ⟨Tryz.func167, by kernel_rfl, rfl, by kernel_rfl⟩
theorem fn168 : FnOK 168 Tryz.f168 := ⟨Tryz.func168, by kernel_rfl, rfl, by kernel_rfl⟩
theorem fn169 : FnOK 169 Tryz.f169 := ⟨Tryz.func169, by kernel_rfl, rfl, by kernel_rfl⟩
theorem fn170 : FnOK 170 Tryz.f170 := ⟨Tryz.func170, by kernel_rfl, rfl, by kernel_rfl⟩
theorem fn171 : FnOK 171 Tryz.f171 := ⟨Tryz.func171, by kernel_rfl, rfl, by kernel_rfl⟩
theorem fn172 : FnOK 172 Tryz.f172 := ⟨Tryz.func172, by kernel_rfl, rfl, by kernel_rfl⟩
theorem fn173 : FnOK 173 Tryz.f173 := ⟨Tryz.func173, by kernel_rfl, rfl, by kernel_rfl⟩
theorem fn174 : FnOK 174 Tryz.f174 := ⟨Tryz.func174, by kernel_rfl, rfl, by kernel_rfl⟩
theorem fn175 : FnOK 175 Tryz.f175 := ⟨Tryz.func175, by kernel_rfl, rfl, by kernel_rfl⟩
theorem fn176 : FnOK 176 Tryz.f176 := ⟨Tryz.func176, by kernel_rfl, rfl, by kernel_rfl⟩
theorem fn177 : FnOK 177 Tryz.f177 := ⟨Tryz.func177, by kernel_rfl, rfl, by kernel_rfl⟩
theorem fn178 : FnOK 178 Tryz.f178 := ⟨Tryz.func178, by kernel_rfl, rfl, by kernel_rfl⟩
theorem fn179 : FnOK 179 Tryz.f179 := ⟨Tryz.func179, by kernel_rfl, rfl, by kernel_rfl⟩
theorem fn180 : FnOK 180 Tryz.f180 := ⟨Tryz.func180, by kernel_rfl, rfl, by kernel_rfl⟩
theorem fn181 : FnOK 181 Tryz.f181 := ⟨Tryz.func181, by kernel_rfl, rfl, by kernel_rfl⟩
theorem fn182 : FnOK 182 Tryz.f182 := ⟨Tryz.func182, by kernel_rfl, rfl, by kernel_rfl⟩
theorem fn183 : FnOK 183 Tryz.f183 := ⟨Tryz.func183, by kernel_rfl, rfl, by kernel_rfl⟩
theorem fn184 : FnOK 184 Tryz.f184 := ⟨Tryz.func184, by kernel_rfl, rfl, by kernel_rfl⟩
theorem fn185 : FnOK 185 Tryz.f185 := ⟨Tryz.func185, by kernel_rfl, rfl, by kernel_rfl⟩
theorem fn186 : FnOK 186 Tryz.f186 := ⟨Tryz.func186, by kernel_rfl, rfl, by kernel_rfl⟩
theorem fn187 : FnOK 187 Tryz.f187 := ⟨Tryz.func187, by kernel_rfl, rfl, by kernel_rfl⟩
theorem fn189 : FnOK 189 Tryz.f189 := ⟨Tryz.func189, by kernel_rfl, rfl, by kernel_rfl⟩
theorem fn190 : FnOK 190 Tryz.f190 := ⟨Tryz.func190, by kernel_rfl, rfl, by kernel_rfl⟩
theorem fn191 : FnOK 191 Tryz.f191 := ⟨Tryz.func191, by kernel_rfl, rfl, by kernel_rfl⟩
theorem fn192 : FnOK 192 Tryz.f192 := ⟨Tryz.func192, by kernel_rfl, rfl, by kernel_rfl⟩
theorem fn193 : FnOK 193 Tryz.f193 := ⟨Tryz.func193, by kernel_rfl, rfl, by kernel_rfl⟩
theorem fn194 : FnOK 194 Tryz.f194 := ⟨Tryz.func194, by kernel_rfl, rfl, by kernel_rfl⟩
theorem fn195 : FnOK 195 Tryz.f195 := ⟨Tryz.func195, by kernel_rfl, rfl, by kernel_rfl⟩
theorem fn196 : FnOK 196 Tryz.f196 := ⟨Tryz.func196, by kernel_rfl, rfl, by kernel_rfl⟩
theorem fn197 : FnOK 197 Tryz.f197 := ⟨Tryz.func197, by kernel_rfl, rfl, by kernel_rfl⟩
theorem fn198 : FnOK 198 Tryz.f198 := ⟨Tryz.func198, by kernel_rfl, rfl, by kernel_rfl⟩
theorem fn199 : FnOK 199 Tryz.f199 := ⟨Tryz.func199, by kernel_rfl, rfl, by kernel_rfl⟩
theorem fn200 : FnOK 200 Tryz.f200 := ⟨Tryz.func200, by kernel_rfl, rfl, by kernel_rfl⟩
theorem fn201 : FnOK 201 Tryz.f201 := ⟨Tryz.func201, by kernel_rfl, rfl, by kernel_rfl⟩
theorem fn202 : FnOK 202 Tryz.f202 := ⟨Tryz.func202, by kernel_rfl, rfl, by kernel_rfl⟩
theorem fn203 : FnOK 203 Tryz.f203 := ⟨Tryz.func203, by kernel_rfl, rfl, by kernel_rfl⟩
theorem fn204 : FnOK 204 Tryz.f204 := ⟨Tryz.func204, by kernel_rfl, rfl, by kernel_rfl⟩
theorem fn205 : FnOK 205 Tryz.f205 := ⟨Tryz.func205, by kernel_rfl, rfl, by kernel_rfl⟩
theorem fn206 : FnOK 206 Tryz.f206 := ⟨Tryz.func206, by kernel_rfl, rfl, by kernel_rfl⟩
theorem fn207 : FnOK 207 Tryz.f207 := ⟨Tryz.func207, by kernel_rfl, rfl, by kernel_rfl⟩
theorem fn208 : FnOK 208 Tryz.f208 := ⟨Tryz.func208, by kernel_rfl, rfl, by kernel_rfl⟩
theorem fn209 : FnOK 209 Tryz.f209 := ⟨Tryz.func209, by kernel_rfl, rfl, by kernel_rfl⟩
theorem fn210 : FnOK 210 Tryz.f210 := ⟨Tryz.func210, by kernel_rfl, rfl, by kernel_rfl⟩
theorem fn211 : FnOK 211 Tryz.f211 := ⟨Tryz.func211, by kernel_rfl, rfl, by kernel_rfl⟩
theorem fn212 : FnOK 212 Tryz.f212 := ⟨Tryz.func212, by kernel_rfl, rfl, by kernel_rfl⟩
theorem fn213 : FnOK 213 Tryz.f213 := ⟨Tryz.func213, by kernel_rfl, rfl, by kernel_rfl⟩
theorem fn214 : FnOK 214 Tryz.f214 := ⟨Tryz.func214, by kernel_rfl, rfl, by kernel_rfl⟩
theorem fn215 : FnOK 215 Tryz.f215 := ⟨Tryz.func215, by kernel_rfl, rfl, by kernel_rfl⟩
theorem fn216 : FnOK 216 Tryz.f216 := ⟨Tryz.func216, by kernel_rfl, rfl, by kernel_rfl⟩
theorem fn217 : FnOK 217 Tryz.f217 := ⟨Tryz.func217, by kernel_rfl, rfl, by kernel_rfl⟩
theorem fn218 : FnOK 218 Tryz.f218 := ⟨Tryz.func218, by kernel_rfl, rfl, by kernel_rfl⟩
theorem fn219 : FnOK 219 Tryz.f219 := ⟨Tryz.func219, by kernel_rfl, rfl, by kernel_rfl⟩
theorem fn220 : FnOK 220 Tryz.f220 := ⟨Tryz.func220, by kernel_rfl, rfl, by kernel_rfl⟩
theorem fn221 : FnOK 221 Tryz.f221 := ⟨Tryz.func221, by kernel_rfl, rfl, by kernel_rfl⟩
theorem fn222 : FnOK 222 Tryz.f222 := ⟨Tryz.func222, by kernel_rfl, rfl, by kernel_rfl⟩
theorem fn223 : FnOK 223 Tryz.f223 := ⟨Tryz.func223, by kernel_rfl, rfl, by kernel_rfl⟩
theorem fn224 : FnOK 224 Tryz.f224 := ⟨Tryz.func224, by kernel_rfl, rfl, by kernel_rfl⟩
theorem fn225 : FnOK 225 Tryz.f225 := ⟨Tryz.func225, by kernel_rfl, rfl, by kernel_rfl⟩
theorem fn226 : FnOK 226 Tryz.f226 := ⟨Tryz.func226, by kernel_rfl, rfl, by kernel_rfl⟩
theorem fn227 : FnOK 227 Tryz.f227 := ⟨Tryz.func227, by kernel_rfl, rfl, by kernel_rfl⟩
theorem fn228 : FnOK 228 Tryz.f228 := ⟨Tryz.func228, by kernel_rfl, rfl, by kernel_rfl⟩
theorem fn229 : FnOK 229 Tryz.f229 := ⟨Tryz.func229, by kernel_rfl, rfl, by kernel_rfl⟩
theorem fn230 : FnOK 230 Tryz.f230 := ⟨Tryz.func230, by kernel_rfl, rfl, by kernel_rfl⟩
theorem fn231 : FnOK 231 Tryz.f231 := ⟨Tryz.func231, by kernel_rfl, rfl, by kernel_rfl⟩
theorem fn232 : FnOK 232 Tryz.f232 := ⟨Tryz.func232, by kernel_rfl, rfl, by kernel_rfl⟩
theorem fn233 : FnOK 233 Tryz.f233 := ⟨Tryz.func233, by kernel_rfl, rfl, by kernel_rfl⟩
theorem fn234 : FnOK 234 Tryz.f234 := ⟨Tryz.func234, by kernel_rfl, rfl, by kernel_rfl⟩
theorem fn235 : FnOK 235 Tryz.f235 := ⟨Tryz.func235, by kernel_rfl, rfl, by kernel_rfl⟩
theorem fn236 : FnOK 236 Tryz.f236 := ⟨Tryz.func236, by kernel_rfl, rfl, by kernel_rfl⟩
theorem fn237 : FnOK 237 Tryz.f237 := ⟨Tryz.func237, by kernel_rfl, rfl, by kernel_rfl⟩
theorem fn238 : FnOK 238 Tryz.f238 := ⟨Tryz.func238, by kernel_rfl, rfl, by kernel_rfl⟩
theorem fn239 : FnOK 239 Tryz.f239 := ⟨Tryz.func239, by kernel_rfl, rfl, by kernel_rfl⟩
theorem ft_all : ftt.All FnOK := ⟨fn120, ⟨fn61, ⟨fn32, ⟨fn17, ⟨fn10, ⟨fn6, ⟨fn4, ⟨fn3, trivial, trivial⟩, ⟨fn5, trivial, trivial⟩⟩, ⟨fn8, ⟨fn7, trivial, trivial⟩, ⟨fn9, trivial, trivial⟩⟩⟩, ⟨fn14, ⟨fn12, ⟨fn11, trivial, trivial⟩, ⟨fn13, trivial, trivial⟩⟩, ⟨fn16, ⟨fn15, trivial, trivial⟩, trivial⟩⟩⟩, ⟨fn25, ⟨fn21, ⟨fn19, ⟨fn18, trivial, trivial⟩, ⟨fn20, trivial, trivial⟩⟩, ⟨fn23, ⟨fn22, trivial, trivial⟩, ⟨fn24, trivial, trivial⟩⟩⟩, ⟨fn29, ⟨fn27, ⟨fn26, trivial, trivial⟩, ⟨fn28, trivial, trivial⟩⟩, ⟨fn31, ⟨fn30, trivial, trivial⟩, trivial⟩⟩⟩⟩, ⟨fn47, ⟨fn40, ⟨fn36, ⟨fn34, ⟨fn33, trivial, trivial⟩, ⟨fn35, trivial, trivial⟩⟩, ⟨fn38, ⟨fn37, trivial, trivial⟩, ⟨fn39, trivial, trivial⟩⟩⟩, ⟨fn44, ⟨fn42, ⟨fn41, trivial, trivial⟩, ⟨fn43, trivial, trivial⟩⟩, ⟨fn46, ⟨fn45, trivial, trivial⟩, trivial⟩⟩⟩, ⟨fn54, ⟨fn51, ⟨fn49, ⟨fn48, trivial, trivial⟩, ⟨fn50, trivial, trivial⟩⟩, ⟨fn53, ⟨fn52, trivial, trivial⟩, trivial⟩⟩, ⟨fn58, ⟨fn56, ⟨fn55, trivial, trivial⟩, ⟨fn57, trivial, trivial⟩⟩, ⟨fn60, ⟨fn59, trivial, trivial⟩, trivial⟩⟩⟩⟩⟩, ⟨fn91, ⟨fn76, ⟨fn69, ⟨fn65, ⟨fn63, ⟨fn62, trivial, trivial⟩, ⟨fn64, trivial, trivial⟩⟩, ⟨fn67, ⟨fn66, trivial, trivial⟩, ⟨fn68, trivial, trivial⟩⟩⟩, ⟨fn73, ⟨fn71, ⟨fn70, trivial, trivial⟩, ⟨fn72, trivial, trivial⟩⟩, ⟨fn75, ⟨fn74, trivial, trivial⟩, trivial⟩⟩⟩, ⟨fn84, ⟨fn80, ⟨fn78, ⟨fn77, trivial, trivial⟩, ⟨fn79, trivial, trivial⟩⟩, ⟨fn82, ⟨fn81, trivial, trivial⟩, ⟨fn83, trivial, trivial⟩⟩⟩, ⟨fn88, ⟨fn86, ⟨fn85, trivial, trivial⟩, ⟨fn87, trivial, trivial⟩⟩, ⟨fn90, ⟨fn89, trivial, trivial⟩, trivial⟩⟩⟩⟩, ⟨fn106, ⟨fn99, ⟨fn95, ⟨fn93, ⟨fn92, trivial, trivial⟩, ⟨fn94, trivial, trivial⟩⟩, ⟨fn97, ⟨fn96, trivial, trivial⟩, ⟨fn98, trivial, trivial⟩⟩⟩, ⟨fn103, ⟨fn101, ⟨fn100, trivial, trivial⟩, ⟨fn102, trivial, trivial⟩⟩, ⟨fn105, ⟨fn104, trivial, trivial⟩, trivial⟩⟩⟩, ⟨fn113, ⟨fn110, ⟨fn108, ⟨fn107, trivial, trivial⟩, ⟨fn109, trivial, trivial⟩⟩, ⟨fn112, ⟨fn111, trivial, trivial⟩, trivial⟩⟩, ⟨fn117, ⟨fn115, ⟨fn114, trivial, trivial⟩, ⟨fn116, trivial, trivial⟩⟩, ⟨fn119, ⟨fn118, trivial, trivial⟩, trivial⟩⟩⟩⟩⟩⟩, ⟨fn180, ⟨fn150, ⟨fn135, ⟨fn128, ⟨fn124, ⟨fn122, ⟨fn121, trivial, trivial⟩, ⟨fn123, trivial, trivial⟩⟩, ⟨fn126, ⟨fn125, trivial, trivial⟩, ⟨fn127, trivial, trivial⟩⟩⟩, ⟨fn132, ⟨fn130, ⟨fn129, trivial, trivial⟩, ⟨fn131, trivial, trivial⟩⟩, ⟨fn134, ⟨fn133, trivial, trivial⟩, trivial⟩⟩⟩, ⟨fn143, ⟨fn139, ⟨fn137, ⟨fn136, trivial, trivial⟩, ⟨fn138, trivial, trivial⟩⟩, ⟨fn141, ⟨fn140, trivial, trivial⟩, ⟨fn142, trivial, trivial⟩⟩⟩, ⟨fn147, ⟨fn145, ⟨fn144, trivial, trivial⟩, ⟨fn146, trivial, trivial⟩⟩, ⟨fn149, ⟨fn148, trivial, trivial⟩, trivial⟩⟩⟩⟩, ⟨fn166, ⟨fn158, ⟨fn154, ⟨fn152, ⟨fn151, trivial, trivial⟩, ⟨fn153, trivial, trivial⟩⟩, ⟨fn156, ⟨fn155, trivial, trivial⟩, ⟨fn157, trivial, trivial⟩⟩⟩, ⟨fn162, ⟨fn160, ⟨fn159, trivial, trivial⟩, ⟨fn161, trivial, trivial⟩⟩, ⟨fn165, ⟨fn164, trivial, trivial⟩, trivial⟩⟩⟩, ⟨fn173, ⟨fn170, ⟨fn168, ⟨fn167, trivial, trivial⟩, ⟨fn169, trivial, trivial⟩⟩, ⟨fn172, ⟨fn171, trivial, trivial⟩, trivial⟩⟩, ⟨fn177, ⟨fn175, ⟨fn174, trivial, trivial⟩, ⟨fn176, trivial, trivial⟩⟩, ⟨fn179, ⟨fn178, trivial, trivial⟩, trivial⟩⟩⟩⟩⟩, ⟨fn211, ⟨fn196, ⟨fn189, ⟨fn184, ⟨fn182, ⟨fn181, trivial, trivial⟩, ⟨fn183, trivial, trivial⟩⟩, ⟨fn186, ⟨fn185, trivial, trivial⟩, ⟨fn187, trivial, trivial⟩⟩⟩, ⟨fn193, ⟨fn191, ⟨fn190, trivial, trivial⟩, ⟨fn192, trivial, trivial⟩⟩, ⟨fn195, ⟨fn194, trivial, trivial⟩, trivial⟩⟩⟩, ⟨fn204, ⟨fn200, ⟨fn198, ⟨fn197, trivial, trivial⟩, ⟨fn199, trivial, trivial⟩⟩, ⟨fn202, ⟨fn201, trivial, trivial⟩, ⟨fn203, trivial, trivial⟩⟩⟩, ⟨fn208, ⟨fn206, ⟨fn205, trivial, trivial⟩, ⟨fn207, trivial, trivial⟩⟩, ⟨fn210, ⟨fn209, trivial, trivial⟩, trivial⟩⟩⟩⟩, ⟨fn226, ⟨fn219, ⟨fn215, ⟨fn213, ⟨fn212, trivial, trivial⟩, ⟨fn214, trivial, trivial⟩⟩, ⟨fn217, ⟨fn216, trivial, trivial⟩, ⟨fn218, trivial, trivial⟩⟩⟩, ⟨fn223, ⟨fn221, ⟨fn220, trivial, trivial⟩, ⟨fn222, trivial, trivial⟩⟩, ⟨fn225, ⟨fn224, trivial, trivial⟩, trivial⟩⟩⟩, ⟨fn233, ⟨fn230, ⟨fn228, ⟨fn227, trivial, trivial⟩, ⟨fn229, trivial, trivial⟩⟩, ⟨fn232, ⟨fn231, trivial, trivial⟩, trivial⟩⟩, ⟨fn237, ⟨fn235, ⟨fn234, trivial, trivial⟩, ⟨fn236, trivial, trivial⟩⟩, ⟨fn239, ⟨fn238, trivial, trivial⟩, trivial⟩⟩⟩⟩⟩⟩⟩
theorem ty_chk : ((List.range 267).all fun t => tyCheck Tryz.prog ty t) = true := by kernel_rfl
def Tree.lows {α : Type} (n : Nat) : Tree α → Bool
  | .leaf => true
  | .node k _ l r => Nat.blt k n && l.lows n && r.lows n
theorem Tree.lows_all {α : Type} {n : Nat} : ∀ (t : Tree α), t.lows n = true → t.All (fun k _ => k < n)
  | .leaf, _ => trivial
  | .node k v l r, h => by
    simp only [Tree.lows, Bool.and_eq_true] at h
    exact ⟨blt_iff.1 h.1.1, Tree.lows_all l h.1.2, Tree.lows_all r h.2⟩
theorem ty_keys : tyt.All (fun k _ => k < 267) := Tree.lows_all tyt (by kernel_rfl)
theorem ty_ok (t : TypeId) : tyCheck Tryz.prog ty t = true := by
  by_cases h : t < 267
  · exact List.all_eq_true.1 ty_chk t (List.mem_range.2 h)
  · have : tyt.get t = none := by
      cases e : tyt.get t with
      | none => rfl
      | some d => exact absurd (Tree.get_all tyt t d ty_keys e) h
    unfold tyCheck ty
    rw [this]
theorem mixed : Tryz.prog.follows .mixedOrders = true := by kernel_rfl
end Go.Proofs.YtkenjojkpdeooaaGreatDoor
end
