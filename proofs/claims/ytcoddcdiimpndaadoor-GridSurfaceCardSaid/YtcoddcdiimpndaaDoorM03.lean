/-
  DERIVED: THE SHELF's CONTRACTS AT THIS DUMP, IN PLAIN WORDS (tools/lay-plain.mjs out of 'TrydShelf.lean', which tools/lay-shelf.mjs wrote): THE SAME DECLARATIONS UNDER THE SAME NAMES: 'import', 'namespace', 'open', 'def', 'theorem' AND NOTHING ELSE: no command of the shelf's: FOR A HAND-IN. Each laying: the table of numbers ('.._ren') and one theorem, a field a fact of the dump's own or the kernel's comparison; each contract: ONE APPLICATION.
  Rows of structs that a call owns, sorted by the shelf's sort; shares.
  The sort of shares by node, as Locate calls it.
-/
import Derived.Shelf.SlGeneric
import Derived.Shelf.SlSortCmp.SmallK
import Derived.Shelf.SlSortCmp.WholeK
import Derived.Shelf.Small.Bits
import Derived.Ground.SlsfProg
import Derived.Ground.NamesProg
import Derived.Test.YtcoddcdiimpndaaDoorProg
import Derived.Test.YtcoddcdiimpndaaDoorM02
namespace Go.Proofs
open Go.Shelf
def Tryd.sortShare_ren : Go.Shelf.Ren := ⟨fun | 6 => 47 | 15 => 65 | 14 => 64 | 28 => 80 | 29 => 81 | 20 => 72 | 21 => 73 | 22 => 74 | 23 => 75 | 24 => 76 | 25 => 77 | 26 => 78 | 27 => 79 | 46 => 107 | 47 => 108 | 48 => 109 | 49 => 110 | 50 => 111 | 57 => 121 | n => n, fun | 22 => 34 | 24 => 41 | 25 => 82 | 3 => 3 | 39 => 101 | 0 => 0 | 53 => 117 | 55 => 119 | 4 => 4 | 46 => 111 | 45 => 110 | 50 => 59 | 5 => 5 | 9 => 9 | 66 => 136 | 70 => 140 | 76 => 148 | 77 => 149 | n => n, fun | n => n⟩
theorem Tryd.sortShare : Go.Proofs.SlLaysF0.n6 Tryd.prog Tryd.sortShare_ren := {
  mixed := by kernel_rfl
  f6 := ⟨Tryd.f47.name, by decide, Tryd.func47.trans (congrArg some (by kernel_rfl))⟩
  f14 := ⟨Tryd.f64.name, by decide, Tryd.func64.trans (congrArg some (by kernel_rfl))⟩
  f15 := Tryd.func65.trans (congrArg some (by kernel_rfl))
  f20 := ⟨Tryd.f72.name, by decide, Tryd.func72.trans (congrArg some (by kernel_rfl))⟩
  f21 := ⟨Tryd.f73.name, by decide, Tryd.func73.trans (congrArg some (by kernel_rfl))⟩
  f22 := ⟨Tryd.f74.name, by decide, Tryd.func74.trans (congrArg some (by kernel_rfl))⟩
  f23 := ⟨Tryd.f75.name, by decide, Tryd.func75.trans (congrArg some (by kernel_rfl))⟩
  f24 := ⟨Tryd.f76.name, by decide, Tryd.func76.trans (congrArg some (by kernel_rfl))⟩
  f25 := ⟨Tryd.f77.name, by decide, Tryd.func77.trans (congrArg some (by kernel_rfl))⟩
  f26 := ⟨Tryd.f78.name, by decide, Tryd.func78.trans (congrArg some (by kernel_rfl))⟩
  f27 := ⟨Tryd.f79.name, by decide, Tryd.func79.trans (congrArg some (by kernel_rfl))⟩
  f28 := Tryd.func80.trans (congrArg some (by kernel_rfl))
  f29 := Tryd.func81.trans (congrArg some (by kernel_rfl))
  f46 := ⟨Tryd.f107.name, by decide, Tryd.func107.trans (congrArg some (by kernel_rfl))⟩
  f47 := Tryd.func108.trans (congrArg some (by kernel_rfl))
  f48 := Tryd.func109.trans (congrArg some (by kernel_rfl))
  f49 := ⟨Tryd.f110.name, by decide, Tryd.func110.trans (congrArg some (by kernel_rfl))⟩
  f50 := ⟨Tryd.f111.name, by decide, Tryd.func111.trans (congrArg some (by kernel_rfl))⟩
  f57 := ⟨Tryd.f121.name, by decide, Tryd.func121.trans (congrArg some (by kernel_rfl))⟩
  t0 := Tryd.underlying0
  a0 := Tryd.isAgg0
  z0 := Tryd.sizeOf0
  v0 := Tryd.zeroValue0
  t3 := Tryd.underlying3
  a3 := Tryd.isAgg3
  z3 := Tryd.sizeOf3
  v3 := Tryd.zeroValue3
  t4 := Tryd.underlying4
  a4 := Tryd.isAgg4
  z4 := Tryd.sizeOf4
  v4 := Tryd.zeroValue4
  t5 := Tryd.underlying5
  a5 := Tryd.isAgg5
  z5 := Tryd.sizeOf5
  v5 := Tryd.zeroValue5
  t9 := Tryd.underlying9
  a9 := Tryd.isAgg9
  z9 := Tryd.sizeOf9
  v9 := Tryd.zeroValue9
  t22 := Tryd.underlying34
  a22 := Tryd.isAgg34
  z22 := Tryd.sizeOf34
  v22 := Tryd.zeroValue34
  t25 := Tryd.underlying82
  a25 := Tryd.isAgg82
  z25 := Tryd.sizeOf82
  v25 := Tryd.zeroValue82
  t39 := Tryd.underlying101
  a39 := Tryd.isAgg101
  z39 := Tryd.sizeOf101
  v39 := Tryd.zeroValue101
  t45 := Tryd.underlying110
  a45 := Tryd.isAgg110
  z45 := Tryd.sizeOf110
  v45 := Tryd.zeroValue110
  t46 := Tryd.underlying111
  a46 := Tryd.isAgg111
  z46 := Tryd.sizeOf111
  v46 := Tryd.zeroValue111
  t50 := Tryd.underlying59
  a50 := Tryd.isAgg59
  z50 := Tryd.sizeOf59
  v50 := Tryd.zeroValue59
  t53 := Tryd.underlying117
  a53 := Tryd.isAgg117
  z53 := Tryd.sizeOf117
  v53 := Tryd.zeroValue117
  t55 := Tryd.underlying119
  a55 := Tryd.isAgg119
  z55 := Tryd.sizeOf119
  v55 := Tryd.zeroValue119
  t66 := Tryd.underlying136
  a66 := Tryd.isAgg136
  z66 := Tryd.sizeOf136
  v66 := Tryd.zeroValue136
  t70 := Tryd.underlying140
  a70 := Tryd.isAgg140
  z70 := Tryd.sizeOf140
  v70 := Tryd.zeroValue140
  t76 := Tryd.underlying148
  a76 := Tryd.isAgg148
  z76 := Tryd.sizeOf148
  v76 := Tryd.zeroValue148
  t77 := Tryd.underlying149
  a77 := Tryd.isAgg149
  z77 := Tryd.sizeOf149
  v77 := Tryd.zeroValue149 }
def Tryd.sortCell_ren : Go.Shelf.Ren := ⟨fun | 6 => 52 | 15 => 65 | 14 => 67 | 28 => 80 | 29 => 81 | 20 => 82 | 21 => 83 | 22 => 84 | 23 => 85 | 24 => 86 | 25 => 87 | 26 => 88 | 27 => 89 | 46 => 112 | 47 => 108 | 48 => 109 | 49 => 113 | 50 => 114 | 57 => 122 | n => n, fun | 22 => 48 | 24 => 54 | 25 => 87 | 3 => 3 | 39 => 101 | 0 => 0 | 53 => 117 | 55 => 119 | 4 => 4 | 46 => 111 | 45 => 110 | 50 => 59 | 5 => 5 | 9 => 9 | 66 => 136 | 70 => 140 | 76 => 148 | 77 => 149 | n => n, fun | n => n⟩
theorem Tryd.sortCell : Go.Proofs.SlLaysF0.n6 Tryd.prog Tryd.sortCell_ren := {
  mixed := by kernel_rfl
  f6 := ⟨Tryd.f52.name, by decide, Tryd.func52.trans (congrArg some (by kernel_rfl))⟩
  f14 := ⟨Tryd.f67.name, by decide, Tryd.func67.trans (congrArg some (by kernel_rfl))⟩
  f15 := Tryd.func65.trans (congrArg some (by kernel_rfl))
  f20 := ⟨Tryd.f82.name, by decide, Tryd.func82.trans (congrArg some (by kernel_rfl))⟩
  f21 := ⟨Tryd.f83.name, by decide, Tryd.func83.trans (congrArg some (by kernel_rfl))⟩
  f22 := ⟨Tryd.f84.name, by decide, Tryd.func84.trans (congrArg some (by kernel_rfl))⟩
  f23 := ⟨Tryd.f85.name, by decide, Tryd.func85.trans (congrArg some (by kernel_rfl))⟩
  f24 := ⟨Tryd.f86.name, by decide, Tryd.func86.trans (congrArg some (by kernel_rfl))⟩
  f25 := ⟨Tryd.f87.name, by decide, Tryd.func87.trans (congrArg some (by kernel_rfl))⟩
  f26 := ⟨Tryd.f88.name, by decide, Tryd.func88.trans (congrArg some (by kernel_rfl))⟩
  f27 := ⟨Tryd.f89.name, by decide, Tryd.func89.trans (congrArg some (by kernel_rfl))⟩
  f28 := Tryd.func80.trans (congrArg some (by kernel_rfl))
  f29 := Tryd.func81.trans (congrArg some (by kernel_rfl))
  f46 := ⟨Tryd.f112.name, by decide, Tryd.func112.trans (congrArg some (by kernel_rfl))⟩
  f47 := Tryd.func108.trans (congrArg some (by kernel_rfl))
  f48 := Tryd.func109.trans (congrArg some (by kernel_rfl))
  f49 := ⟨Tryd.f113.name, by decide, Tryd.func113.trans (congrArg some (by kernel_rfl))⟩
  f50 := ⟨Tryd.f114.name, by decide, Tryd.func114.trans (congrArg some (by kernel_rfl))⟩
  f57 := ⟨Tryd.f122.name, by decide, Tryd.func122.trans (congrArg some (by kernel_rfl))⟩
  t0 := Tryd.underlying0
  a0 := Tryd.isAgg0
  z0 := Tryd.sizeOf0
  v0 := Tryd.zeroValue0
  t3 := Tryd.underlying3
  a3 := Tryd.isAgg3
  z3 := Tryd.sizeOf3
  v3 := Tryd.zeroValue3
  t4 := Tryd.underlying4
  a4 := Tryd.isAgg4
  z4 := Tryd.sizeOf4
  v4 := Tryd.zeroValue4
  t5 := Tryd.underlying5
  a5 := Tryd.isAgg5
  z5 := Tryd.sizeOf5
  v5 := Tryd.zeroValue5
  t9 := Tryd.underlying9
  a9 := Tryd.isAgg9
  z9 := Tryd.sizeOf9
  v9 := Tryd.zeroValue9
  t22 := Tryd.underlying48
  a22 := Tryd.isAgg48
  z22 := Tryd.sizeOf48
  v22 := Tryd.zeroValue48
  t25 := Tryd.underlying87
  a25 := Tryd.isAgg87
  z25 := Tryd.sizeOf87
  v25 := Tryd.zeroValue87
  t39 := Tryd.underlying101
  a39 := Tryd.isAgg101
  z39 := Tryd.sizeOf101
  v39 := Tryd.zeroValue101
  t45 := Tryd.underlying110
  a45 := Tryd.isAgg110
  z45 := Tryd.sizeOf110
  v45 := Tryd.zeroValue110
  t46 := Tryd.underlying111
  a46 := Tryd.isAgg111
  z46 := Tryd.sizeOf111
  v46 := Tryd.zeroValue111
  t50 := Tryd.underlying59
  a50 := Tryd.isAgg59
  z50 := Tryd.sizeOf59
  v50 := Tryd.zeroValue59
  t53 := Tryd.underlying117
  a53 := Tryd.isAgg117
  z53 := Tryd.sizeOf117
  v53 := Tryd.zeroValue117
  t55 := Tryd.underlying119
  a55 := Tryd.isAgg119
  z55 := Tryd.sizeOf119
  v55 := Tryd.zeroValue119
  t66 := Tryd.underlying136
  a66 := Tryd.isAgg136
  z66 := Tryd.sizeOf136
  v66 := Tryd.zeroValue136
  t70 := Tryd.underlying140
  a70 := Tryd.isAgg140
  z70 := Tryd.sizeOf140
  v70 := Tryd.zeroValue140
  t76 := Tryd.underlying148
  a76 := Tryd.isAgg148
  z76 := Tryd.sizeOf148
  v76 := Tryd.zeroValue148
  t77 := Tryd.underlying149
  a77 := Tryd.isAgg149
  z77 := Tryd.sizeOf149
  v77 := Tryd.zeroValue149 }
def Tryd.sortEdge_ren : Go.Shelf.Ren := ⟨fun | 6 => 56 | 15 => 65 | 14 => 69 | 28 => 80 | 29 => 81 | 20 => 90 | 21 => 91 | 22 => 92 | 23 => 93 | 24 => 94 | 25 => 95 | 26 => 96 | 27 => 97 | 46 => 115 | 47 => 108 | 48 => 109 | 49 => 116 | 50 => 117 | 57 => 123 | n => n, fun | 22 => 45 | 24 => 52 | 25 => 89 | 3 => 3 | 39 => 101 | 0 => 0 | 53 => 117 | 55 => 119 | 4 => 4 | 46 => 111 | 45 => 110 | 50 => 59 | 5 => 5 | 9 => 9 | 66 => 136 | 70 => 140 | 76 => 148 | 77 => 149 | n => n, fun | n => n⟩
theorem Tryd.sortEdge : Go.Proofs.SlLaysF0.n6 Tryd.prog Tryd.sortEdge_ren := {
  mixed := by kernel_rfl
  f6 := ⟨Tryd.f56.name, by decide, Tryd.func56.trans (congrArg some (by kernel_rfl))⟩
  f14 := ⟨Tryd.f69.name, by decide, Tryd.func69.trans (congrArg some (by kernel_rfl))⟩
  f15 := Tryd.func65.trans (congrArg some (by kernel_rfl))
  f20 := ⟨Tryd.f90.name, by decide, Tryd.func90.trans (congrArg some (by kernel_rfl))⟩
  f21 := ⟨Tryd.f91.name, by decide, Tryd.func91.trans (congrArg some (by kernel_rfl))⟩
  f22 := ⟨Tryd.f92.name, by decide, Tryd.func92.trans (congrArg some (by kernel_rfl))⟩
  f23 := ⟨Tryd.f93.name, by decide, Tryd.func93.trans (congrArg some (by kernel_rfl))⟩
  f24 := ⟨Tryd.f94.name, by decide, Tryd.func94.trans (congrArg some (by kernel_rfl))⟩
  f25 := ⟨Tryd.f95.name, by decide, Tryd.func95.trans (congrArg some (by kernel_rfl))⟩
  f26 := ⟨Tryd.f96.name, by decide, Tryd.func96.trans (congrArg some (by kernel_rfl))⟩
  f27 := ⟨Tryd.f97.name, by decide, Tryd.func97.trans (congrArg some (by kernel_rfl))⟩
  f28 := Tryd.func80.trans (congrArg some (by kernel_rfl))
  f29 := Tryd.func81.trans (congrArg some (by kernel_rfl))
  f46 := ⟨Tryd.f115.name, by decide, Tryd.func115.trans (congrArg some (by kernel_rfl))⟩
  f47 := Tryd.func108.trans (congrArg some (by kernel_rfl))
  f48 := Tryd.func109.trans (congrArg some (by kernel_rfl))
  f49 := ⟨Tryd.f116.name, by decide, Tryd.func116.trans (congrArg some (by kernel_rfl))⟩
  f50 := ⟨Tryd.f117.name, by decide, Tryd.func117.trans (congrArg some (by kernel_rfl))⟩
  f57 := ⟨Tryd.f123.name, by decide, Tryd.func123.trans (congrArg some (by kernel_rfl))⟩
  t0 := Tryd.underlying0
  a0 := Tryd.isAgg0
  z0 := Tryd.sizeOf0
  v0 := Tryd.zeroValue0
  t3 := Tryd.underlying3
  a3 := Tryd.isAgg3
  z3 := Tryd.sizeOf3
  v3 := Tryd.zeroValue3
  t4 := Tryd.underlying4
  a4 := Tryd.isAgg4
  z4 := Tryd.sizeOf4
  v4 := Tryd.zeroValue4
  t5 := Tryd.underlying5
  a5 := Tryd.isAgg5
  z5 := Tryd.sizeOf5
  v5 := Tryd.zeroValue5
  t9 := Tryd.underlying9
  a9 := Tryd.isAgg9
  z9 := Tryd.sizeOf9
  v9 := Tryd.zeroValue9
  t22 := Tryd.underlying45
  a22 := Tryd.isAgg45
  z22 := Tryd.sizeOf45
  v22 := Tryd.zeroValue45
  t25 := Tryd.underlying89
  a25 := Tryd.isAgg89
  z25 := Tryd.sizeOf89
  v25 := Tryd.zeroValue89
  t39 := Tryd.underlying101
  a39 := Tryd.isAgg101
  z39 := Tryd.sizeOf101
  v39 := Tryd.zeroValue101
  t45 := Tryd.underlying110
  a45 := Tryd.isAgg110
  z45 := Tryd.sizeOf110
  v45 := Tryd.zeroValue110
  t46 := Tryd.underlying111
  a46 := Tryd.isAgg111
  z46 := Tryd.sizeOf111
  v46 := Tryd.zeroValue111
  t50 := Tryd.underlying59
  a50 := Tryd.isAgg59
  z50 := Tryd.sizeOf59
  v50 := Tryd.zeroValue59
  t53 := Tryd.underlying117
  a53 := Tryd.isAgg117
  z53 := Tryd.sizeOf117
  v53 := Tryd.zeroValue117
  t55 := Tryd.underlying119
  a55 := Tryd.isAgg119
  z55 := Tryd.sizeOf119
  v55 := Tryd.zeroValue119
  t66 := Tryd.underlying136
  a66 := Tryd.isAgg136
  z66 := Tryd.sizeOf136
  v66 := Tryd.zeroValue136
  t70 := Tryd.underlying140
  a70 := Tryd.isAgg140
  z70 := Tryd.sizeOf140
  v70 := Tryd.zeroValue140
  t76 := Tryd.underlying148
  a76 := Tryd.isAgg148
  z76 := Tryd.sizeOf148
  v76 := Tryd.zeroValue148
  t77 := Tryd.underlying149
  a77 := Tryd.isAgg149
  z77 := Tryd.sizeOf149
  v77 := Tryd.zeroValue149 }
def Tryd.bitsLen_ren : Go.Shelf.Ren := ⟨fun | 125 => 65 | 128 => 80 | 129 => 81 | n => n, fun | 46 => 101 | 3 => 3 | 51 => 117 | 53 => 119 | 4 => 4 | 5 => 5 | 9 => 9 | n => n, fun | n => n⟩
theorem Tryd.bitsLen : Go.Proofs.Lays.n125 Tryd.prog Tryd.bitsLen_ren := {
  mixed := by kernel_rfl
  f125 := Tryd.func65.trans (congrArg some (by kernel_rfl))
  f128 := Tryd.func80.trans (congrArg some (by kernel_rfl))
  f129 := Tryd.func81.trans (congrArg some (by kernel_rfl))
  t3 := Tryd.underlying3
  a3 := Tryd.isAgg3
  z3 := Tryd.sizeOf3
  v3 := Tryd.zeroValue3
  t4 := Tryd.underlying4
  a4 := Tryd.isAgg4
  z4 := Tryd.sizeOf4
  v4 := Tryd.zeroValue4
  t5 := Tryd.underlying5
  a5 := Tryd.isAgg5
  z5 := Tryd.sizeOf5
  v5 := Tryd.zeroValue5
  t9 := Tryd.underlying9
  a9 := Tryd.isAgg9
  z9 := Tryd.sizeOf9
  v9 := Tryd.zeroValue9
  t46 := Tryd.underlying101
  a46 := Tryd.isAgg101
  z46 := Tryd.sizeOf101
  v46 := Tryd.zeroValue101
  t51 := Tryd.underlying117
  a51 := Tryd.isAgg117
  z51 := Tryd.sizeOf117
  v51 := Tryd.zeroValue117
  t53 := Tryd.underlying119
  a53 := Tryd.isAgg119
  z53 := Tryd.sizeOf119
  v53 := Tryd.zeroValue119 }
end Go.Proofs
set_option linter.unusedVariables false
set_option linter.unusedSimpArgs false
namespace Go.Proofs.YtcoddcdiimpndaaDoor
open Go.RowKit Go.Sort
section
variable {α : Type} [Inhabited α]
theorem flat_get (enc : α → List Value) (k : Nat) (hk : ∀ x, (enc x).length = k) : ∀ (l : List α) (t : Nat), t < l.length * k → (l.flatMap enc)[t]? = some ((enc (l[t / k]!))[t % k]!)
  | [], t, h => by simp at h
  | x :: l, t, h => by
    have k0 : 0 < k := by
      rcases Nat.eq_zero_or_pos k with e | e
      · subst e; simp at h
      · exact e
    rw [List.flatMap_cons]
    by_cases ht : t < k
    · rw [List.getElem?_append_left (by rw [hk]; exact ht), Nat.div_eq_of_lt ht, Nat.mod_eq_of_lt ht]
      have : t < (enc x).length := by rw [hk]; exact ht
      simp [this]
    · obtain ⟨u, rfl⟩ : ∃ u, t = u + k := ⟨t - k, by omega⟩
      rw [List.getElem?_append_right (by rw [hk]; omega), hk, Nat.add_sub_cancel, Nat.add_div_right _ k0, Nat.add_mod_right,
        flat_get enc k hk l u (by rw [List.length_cons, Nat.add_mul] at h; omega)]
      rfl
theorem get_arr {β : Type} [Inhabited β] (d : Array β) (i : Nat) : d.toList[i]! = d[i]! := by
  rw [List.getElem!_eq_getElem?_getD, Array.getElem?_toList, Array.getElem!_eq_getD, Array.getD_eq_getD_getElem?]
theorem flat_len {β : Type} (enc : β → List Value) (k : Nat) (hk : ∀ x, (enc x).length = k) : ∀ l : List β, (l.flatMap enc).length = l.length * k
  | [] => by simp
  | x :: l => by rw [List.flatMap_cons, List.length_append, hk, flat_len enc k hk l, List.length_cons, Nat.add_mul]; omega
theorem flatK_toList (enc : α → List Value) (k : Nat) (hk : ∀ x, (enc x).length = k) (d : Array α) : (flatK enc k d).toList = d.toList.flatMap enc := by
  apply List.ext_getElem?
  intro t
  by_cases ht : t < d.size * k
  · rw [flat_get enc k hk d.toList t (by simpa using ht)]
    have h1 := get_flatK enc k d t ht
    have h2 : t < (flatK enc k d).size := by simpa using ht
    rw [getElem!_pos _ t h2] at h1
    rw [Array.getElem?_toList, Array.getElem?_eq_getElem h2, h1, get_arr d]
  · rw [List.getElem?_eq_none (by simpa using Nat.le_of_not_lt ht), List.getElem?_eq_none]
    have : (d.toList.flatMap enc).length = d.size * k := by
      rw [flat_len enc k hk]
      simp
    omega
variable {w : World} {base g cap n : Nat} {e : TypeId} {k : Nat} {enc : α → List Value} {d d' : Array α}
theorem own_holds (hk : ∀ x, (enc x).length = k) (hn : n = d.size) (h : w.ownsRow base e k (.slice (some ⟨g, 0, none⟩) n cap) n (d.toList.flatMap enc)) : HoldsK enc k w g 0 d := by
  intro j hj
  rw [size_flatK] at hj
  subst hn
  rw [Nat.zero_add]
  refine ⟨?_, h.frozenAt j⟩
  rw [h.cellAt j hj, flat_get enc k hk d.toList j (by simpa using hj), get_flatK enc k d j hj, get_arr d]
  rfl
theorem setMany_all (F G : Array Value) (h : G.size = F.size) : setMany F 0 G.toList = G := by
  refine ext_get! (by simp [h]) fun t ht => ?_
  have ht' : t < F.size := by simpa using ht
  rw [get_setMany _ _ _ t ht', if_pos ⟨Nat.zero_le _, by simp; omega⟩, Nat.sub_zero, get_arr]
def setL : List Value → Nat → List Value → List Value
  | xs, _, [] => xs
  | xs, o, v :: r => setL (xs.set o v) (o + 1) r
theorem setL_all : ∀ (vs mid pre : List Value), mid.length = vs.length → setL (pre ++ mid) pre.length vs = pre ++ vs
  | [], mid, pre, h => by
    have : mid = [] := List.length_eq_zero_iff.1 h
    rw [this]; rfl
  | v :: r, mid, pre, h => by
    cases mid with
    | nil => simp at h
    | cons m mid =>
      have := setL_all r mid (pre ++ [v]) (by simpa using h)
      simp only [setL]
      rw [List.set_append_right _ _ (Nat.le_refl _)]
      simpa using this
theorem own_setCells : ∀ (vs xs : List Value) (o : Nat) (w : World), w.ownsRow base e k (.slice (some ⟨g, 0, none⟩) n cap) n xs → (w.setCells g o vs).ownsRow base e k (.slice (some ⟨g, 0, none⟩) n cap) n (setL xs o vs)
  | [], xs, o, w, h => h
  | v :: r, xs, o, w, h => own_setCells r (xs.set o v) (o + 1) _ (h.stored o v).1
theorem sortW_eq (hk : ∀ x, (enc x).length = k) (hn : n = d.size) (h : w.ownsRow base e k (.slice (some ⟨g, 0, none⟩) n cap) n (d.toList.flatMap enc)) (hs : d'.size = d.size) (m : Nat) (os : Array Obj) :
    Go.Proofs.sortWorldK enc k w g 0 m d' os = Sort.grow ((Sort.ahead w m).setCells g 0 (d'.toList.flatMap enc)) os := by
  unfold Go.Proofs.sortWorldK putRowK
  have h1 := setCells_putRow (Sort.ahead w m) g 0 (flatK enc k d').toList 0 (flatK enc k d) (by simp [hs])
  rw [setMany_all _ _ (by simp [hs]), putRow_self id (Sort.ahead w m) g 0 _ (own_holds hk hn h)] at h1
  rw [← h1, flatK_toList enc k hk]
theorem grown_grow (w : World) (os : Array Obj) (row : Option Nat) : w.grownBy (Sort.grow w os) row :=
  ⟨rfl, rfl, rfl, by simp [Sort.grow], fun i hi _ => by simp only [Sort.grow]; rw [Array.getElem?_append_left hi]⟩
theorem own_sorted (hk : ∀ x, (enc x).length = k) (hn : n = d.size) (h : w.ownsRow base e k (.slice (some ⟨g, 0, none⟩) n cap) n (d.toList.flatMap enc)) (hs : d'.size = d.size) (m : Nat) (os : Array Obj) :
    (Go.Proofs.sortWorldK enc k w g 0 m d' os).ownsRow base e k (.slice (some ⟨g, 0, none⟩) n cap) n (d'.toList.flatMap enc) ∧ Below base w (Go.Proofs.sortWorldK enc k w g 0 m d' os) := by
  rw [sortW_eq hk hn h hs]
  have hl := (h.lt g rfl)
  have hz : ∀ d : Array α, (d.toList.flatMap enc).length = d.size * k := fun d => by rw [flat_len enc k hk]; simp
  constructor
  · have h1 : (Sort.ahead w m).ownsRow base e k (.slice (some ⟨g, 0, none⟩) n cap) n (d.toList.flatMap enc) := h
    have h2 := own_setCells (d'.toList.flatMap enc) _ 0 _ h1
    have h3 := setL_all (d'.toList.flatMap enc) (d.toList.flatMap enc) [] (by rw [hz, hz, hs])
    simp only [List.nil_append, List.length_nil] at h3
    rw [h3] at h2
    exact h2.kept (grown_grow _ os none) (.inr (by simp [Value.ownBlock]))
  · have h1 : Below base w (Sort.ahead w m) := ⟨rfl, rfl, rfl, Nat.le_refl _, fun _ _ => rfl⟩
    have h2 := Below.setCells hl.1 (d'.toList.flatMap enc) 0 _ h1
    have h3 := grown_grow ((Sort.ahead w m).setCells g 0 (d'.toList.flatMap enc)) os none
    have h4 : base ≤ ((Sort.ahead w m).setCells g 0 (d'.toList.flatMap enc)).heap.size := by
      rw [size_setCells]
      exact Nat.le_trans hl.1 (Nat.le_of_lt hl.2)
    exact h2.grown h3 h4 (by simp)
end
/-- A share: a node and its weight. -/
structure Sh where
  node : Int
  w : Int
deriving DecidableEq, Inhabited
def shc (s : Sh) : List Value := [.int .i64 s.node, .int .i64 s.w]
def cellsS (l : List Sh) : List Value := l.flatMap shc
theorem cellsS_snoc (l : List Sh) (a b : Int) : cellsS (l ++ [⟨a, b⟩]) = cellsS l ++ [.int .i64 a, .int .i64 b] := by simp [cellsS, shc]
def cmpS (x y : Sh) : Int := IntKind.i64.wrap (x.node - y.node)
def sortS (l : List Sh) : List Sh := (Sort.insertionSort (ltOf cmpS) l.toArray 0 l.length).toList
def rawTo (l : List Pl) (f : Int) (qx qy qz W : Nat → Int) : Nat → List Sh
  | 0 => []
  | j + 1 => rawTo l f qx qy qz W j ++ if 0 < W j then [⟨(ix l (normPl f (qx j) (qy j) (qz j)) : Nat), W j⟩] else []
theorem rawTo_le (l : List Pl) (f : Int) (qx qy qz W : Nat → Int) : ∀ j, (rawTo l f qx qy qz W j).length ≤ j
  | 0 => Nat.le_refl _
  | j + 1 => by
    have := rawTo_le l f qx qy qz W j
    rw [rawTo, List.length_append]
    split <;> simp <;> omega
theorem infoSh : (Tryd.prog.info? 41).map (fun i => (i.zero, i.size, i.bytes)) = some (some (.agg #[.int .i64 0, .int .i64 0]), 2, 16) := by kernel_rfl
/-- The coordinate i of the corner j of a small triangle. -/
def qc (up : Bool) (h base : Int) (i j : Nat) : Int := base + if decide (i = j) == up then h else 0
/-- The weight of the corner j. -/
def lw (up : Bool) (X Y Z : Int) (j : Nat) : Int :=
  let v := if j = 0 then X else if j = 1 then Y else Z
  if up then v else 840 - v
/-- The shares of a place of face f with remainders. -/
def locS (l : List Pl) (h n : Nat) (f a b c : Int) : List Sh :=
  let X := a % (h : Int) * (n : Int); let Y := b % (h : Int) * (n : Int); let Z := c % (h : Int) * (n : Int)
  if X + Y + Z = 0 then [⟨(ix l (normPl f a b c) : Nat), 840⟩]
  else
    let up := decide (X + Y + Z = 840)
    sortS (rawTo l f (qc up h (a - a % (h : Int)) 0) (qc up h (b - b % (h : Int)) 1) (qc up h (c - c % (h : Int)) 2) (lw up X Y Z) 3)
end Go.Proofs.YtcoddcdiimpndaaDoor
set_option linter.unusedVariables false
set_option linter.unusedSimpArgs false
namespace Go.Proofs.YtcoddcdiimpndaaDoor
open Go.RowKit Go.Sort
theorem size_insInner {α : Type} [Inhabited α] (lt : α → α → Bool) (a : Nat) : ∀ (j : Nat) (d : Array α), (insInner lt a j d).size = d.size
  | 0, _ => rfl
  | j + 1, d => by
    unfold insInner
    split
    · rw [size_insInner lt a j, size_swp]
    · rfl
theorem size_insOuter {α : Type} [Inhabited α] (lt : α → α → Bool) (a b : Nat) : ∀ (m i : Nat) (d : Array α), b - i = m → (insOuter lt a b i d).size = d.size
  | 0, i, d, h => by
    unfold insOuter
    rw [if_neg (by omega)]
  | m + 1, i, d, h => by
    unfold insOuter
    rw [if_pos (by omega), size_insOuter lt a b m (i + 1) _ (by omega), size_insInner]
theorem size_insS {α : Type} [Inhabited α] (lt : α → α → Bool) (d : Array α) (a b : Nat) : (Sort.insertionSort lt d a b).size = d.size := size_insOuter lt a b _ _ d rfl
set_option maxHeartbeats 1000000 in
theorem less_any (x y : Sh) (W : World) : Calls Tryd.prog 48 #[.agg #[.int .i64 x.node, .int .i64 x.w], .agg #[.int .i64 y.node, .int .i64 y.w]] W fun e w' => e = .returned (.int .i64 (cmpS x y)) ∧ ∃ q os', w' = Sort.grow (W.drewN q) os' := by
  go_enter Tryd.func48, Tryd.ntmps48
  go_wp2
  go_ret
  refine ⟨?_, 0, _, by rw [alloc_eq_grow, alloc_eq_grow, grow_grow]; rfl⟩
  unfold cmpS
  rw [IntWalk.i64_left]
  rfl
theorem bits2 (n : Nat) (W : World) (h : n ≤ 12) : Calls Tryd.prog 65 #[.int .u64 n] W fun e w' => (∃ l : Int, e = .returned (.int .i64 l)) ∧ w' = W :=
  (Any.bits_Len Tryd.bitsLen n W (by omega) (by omega)).mono fun _ _ ⟨he, hw⟩ => ⟨⟨_, he⟩, hw⟩
/-- The sort of a row of shares that a call owns. -/
theorem sort_any (L : List Sh) (base g cap : Nat) (w : World) (h12 : L.length ≤ 12) (h : w.ownsRow base 41 2 (.slice (some ⟨g, 0, none⟩) L.length cap) L.length (cellsS L)) :
    Calls Tryd.prog 47 #[.slice (some ⟨g, 0, none⟩) L.length cap, .func (.func 48) #[] #[]] w fun e w' => e = .returned (.tuple #[]) ∧ w'.ownsRow base 41 2 (.slice (some ⟨g, 0, none⟩) L.length cap) L.length (cellsS (sortS L)) ∧ Below base w w' := by
  have hk : ∀ x, (shc x).length = 2 := fun _ => rfl
  have hrow : w.ownsRow base 41 2 (.slice (some ⟨g, 0, none⟩) L.length cap) L.length (L.toArray.toList.flatMap shc) := h
  have hH := own_holds hk (by simp) hrow
  have eg : ∀ args w, (callFunc 48 args).run Tryd.prog w = .ok (.enter 48 args) w := enters_of Tryd.func48 (by kernel_rfl) rfl
  have hc := AnyQ.slices_SortFunc_small Tryd.sortShare 2 Tryd.isAgg41 Tryd.sizeOf41 shc hk (fun x v hv => by simp [shc] at hv; rcases hv with rfl | rfl <;> rfl) cmpS 48 #[] g 0 cap L.toArray w eg (fun _ _ _ _ x y => less_any x y _) hH (h.lt g rfl).2 (by simpa using h12) bits2
  refine hc.mono ?_
  rintro e w' ⟨rfl, m, os, rfl⟩
  have hz : (Sort.insertionSort (ltOf cmpS) L.toArray 0 L.toArray.size).size = L.toArray.size := size_insS _ _ _ _
  have := own_sorted hk (by simp) hrow hz m os
  exact ⟨rfl, by simpa [sortS, cellsS] using this⟩
theorem sortS_length (L : List Sh) : (sortS L).length = L.length := by simp [sortS, size_insS]
end Go.Proofs.YtcoddcdiimpndaaDoor
