/-
  DERIVED: THE SHELF's CONTRACTS AT THIS DUMP, IN PLAIN WORDS (tools/lay-plain.mjs out of 'TryzShelf.lean', which tools/lay-shelf.mjs wrote): THE SAME DECLARATIONS UNDER THE SAME NAMES: 'import', 'namespace', 'open', 'def', 'theorem' AND NOTHING ELSE: no command of the shelf's: FOR A HAND-IN. Each laying: the table of numbers ('.._ren') and one theorem, a field a fact of the dump's own or the kernel's comparison; each contract: ONE APPLICATION.
  Rows of structs that a call owns, sorted by the shelf's sort; shares.
  The sort of shares by node, as Locate calls it.
-/
import Derived.Shelf.SlGeneric
import Derived.Shelf.SlSortCmp.SmallK
import Derived.Shelf.SlSortCmp.WholeK
import Derived.Shelf.Small.Bits
import Derived.Ground.SlsfProg
import Derived.Ground.NamesProg
import Derived.Test.YtcoddcdiimpndaaGreatDoorProg
import Derived.Test.YtcoddcdiimpndaaGreatDoorM02
namespace Go.Proofs
open Go.Shelf
def Tryz.sortShare_ren : Go.Shelf.Ren := ⟨fun | 6 => 103 | 15 => 112 | 14 => 122 | 28 => 134 | 29 => 135 | 20 => 153 | 21 => 154 | 22 => 155 | 23 => 156 | 24 => 157 | 25 => 158 | 26 => 159 | 27 => 160 | 46 => 184 | 47 => 172 | 48 => 173 | 49 => 185 | 50 => 186 | 57 => 193 | n => n, fun | 22 => 49 | 24 => 54 | 25 => 135 | 3 => 3 | 39 => 77 | 0 => 0 | 53 => 163 | 55 => 165 | 4 => 4 | 46 => 157 | 45 => 156 | 50 => 104 | 5 => 5 | 9 => 9 | 66 => 192 | 70 => 196 | 76 => 207 | 77 => 208 | n => n, fun | n => n⟩
theorem Tryz.sortShare : Go.Proofs.SlLaysF0.n6 Tryz.prog Tryz.sortShare_ren := {
  mixed := by kernel_rfl
  f6 := ⟨Tryz.f103.name, by decide, Tryz.func103.trans (congrArg some (by kernel_rfl))⟩
  f14 := ⟨Tryz.f122.name, by decide, Tryz.func122.trans (congrArg some (by kernel_rfl))⟩
  f15 := Tryz.func112.trans (congrArg some (by kernel_rfl))
  f20 := ⟨Tryz.f153.name, by decide, Tryz.func153.trans (congrArg some (by kernel_rfl))⟩
  f21 := ⟨Tryz.f154.name, by decide, Tryz.func154.trans (congrArg some (by kernel_rfl))⟩
  f22 := ⟨Tryz.f155.name, by decide, Tryz.func155.trans (congrArg some (by kernel_rfl))⟩
  f23 := ⟨Tryz.f156.name, by decide, Tryz.func156.trans (congrArg some (by kernel_rfl))⟩
  f24 := ⟨Tryz.f157.name, by decide, Tryz.func157.trans (congrArg some (by kernel_rfl))⟩
  f25 := ⟨Tryz.f158.name, by decide, Tryz.func158.trans (congrArg some (by kernel_rfl))⟩
  f26 := ⟨Tryz.f159.name, by decide, Tryz.func159.trans (congrArg some (by kernel_rfl))⟩
  f27 := ⟨Tryz.f160.name, by decide, Tryz.func160.trans (congrArg some (by kernel_rfl))⟩
  f28 := Tryz.func134.trans (congrArg some (by kernel_rfl))
  f29 := Tryz.func135.trans (congrArg some (by kernel_rfl))
  f46 := ⟨Tryz.f184.name, by decide, Tryz.func184.trans (congrArg some (by kernel_rfl))⟩
  f47 := Tryz.func172.trans (congrArg some (by kernel_rfl))
  f48 := Tryz.func173.trans (congrArg some (by kernel_rfl))
  f49 := ⟨Tryz.f185.name, by decide, Tryz.func185.trans (congrArg some (by kernel_rfl))⟩
  f50 := ⟨Tryz.f186.name, by decide, Tryz.func186.trans (congrArg some (by kernel_rfl))⟩
  f57 := ⟨Tryz.f193.name, by decide, Tryz.func193.trans (congrArg some (by kernel_rfl))⟩
  t0 := Tryz.underlying0
  a0 := Tryz.isAgg0
  z0 := Tryz.sizeOf0
  v0 := Tryz.zeroValue0
  t3 := Tryz.underlying3
  a3 := Tryz.isAgg3
  z3 := Tryz.sizeOf3
  v3 := Tryz.zeroValue3
  t4 := Tryz.underlying4
  a4 := Tryz.isAgg4
  z4 := Tryz.sizeOf4
  v4 := Tryz.zeroValue4
  t5 := Tryz.underlying5
  a5 := Tryz.isAgg5
  z5 := Tryz.sizeOf5
  v5 := Tryz.zeroValue5
  t9 := Tryz.underlying9
  a9 := Tryz.isAgg9
  z9 := Tryz.sizeOf9
  v9 := Tryz.zeroValue9
  t22 := Tryz.underlying49
  a22 := Tryz.isAgg49
  z22 := Tryz.sizeOf49
  v22 := Tryz.zeroValue49
  t25 := Tryz.underlying135
  a25 := Tryz.isAgg135
  z25 := Tryz.sizeOf135
  v25 := Tryz.zeroValue135
  t39 := Tryz.underlying77
  a39 := Tryz.isAgg77
  z39 := Tryz.sizeOf77
  v39 := Tryz.zeroValue77
  t45 := Tryz.underlying156
  a45 := Tryz.isAgg156
  z45 := Tryz.sizeOf156
  v45 := Tryz.zeroValue156
  t46 := Tryz.underlying157
  a46 := Tryz.isAgg157
  z46 := Tryz.sizeOf157
  v46 := Tryz.zeroValue157
  t50 := Tryz.underlying104
  a50 := Tryz.isAgg104
  z50 := Tryz.sizeOf104
  v50 := Tryz.zeroValue104
  t53 := Tryz.underlying163
  a53 := Tryz.isAgg163
  z53 := Tryz.sizeOf163
  v53 := Tryz.zeroValue163
  t55 := Tryz.underlying165
  a55 := Tryz.isAgg165
  z55 := Tryz.sizeOf165
  v55 := Tryz.zeroValue165
  t66 := Tryz.underlying192
  a66 := Tryz.isAgg192
  z66 := Tryz.sizeOf192
  v66 := Tryz.zeroValue192
  t70 := Tryz.underlying196
  a70 := Tryz.isAgg196
  z70 := Tryz.sizeOf196
  v70 := Tryz.zeroValue196
  t76 := Tryz.underlying207
  a76 := Tryz.isAgg207
  z76 := Tryz.sizeOf207
  v76 := Tryz.zeroValue207
  t77 := Tryz.underlying208
  a77 := Tryz.isAgg208
  z77 := Tryz.sizeOf208
  v77 := Tryz.zeroValue208 }
def Tryz.sortCell_ren : Go.Shelf.Ren := ⟨fun | 6 => 90 | 15 => 112 | 14 => 118 | 28 => 134 | 29 => 135 | 20 => 137 | 21 => 138 | 22 => 139 | 23 => 140 | 24 => 141 | 25 => 142 | 26 => 143 | 27 => 144 | 46 => 178 | 47 => 172 | 48 => 173 | 49 => 179 | 50 => 180 | 57 => 191 | n => n, fun | 22 => 28 | 24 => 34 | 25 => 123 | 3 => 3 | 39 => 77 | 0 => 0 | 53 => 163 | 55 => 165 | 4 => 4 | 46 => 157 | 45 => 156 | 50 => 104 | 5 => 5 | 9 => 9 | 66 => 192 | 70 => 196 | 76 => 207 | 77 => 208 | n => n, fun | n => n⟩
theorem Tryz.sortCell : Go.Proofs.SlLaysF0.n6 Tryz.prog Tryz.sortCell_ren := {
  mixed := by kernel_rfl
  f6 := ⟨Tryz.f90.name, by decide, Tryz.func90.trans (congrArg some (by kernel_rfl))⟩
  f14 := ⟨Tryz.f118.name, by decide, Tryz.func118.trans (congrArg some (by kernel_rfl))⟩
  f15 := Tryz.func112.trans (congrArg some (by kernel_rfl))
  f20 := ⟨Tryz.f137.name, by decide, Tryz.func137.trans (congrArg some (by kernel_rfl))⟩
  f21 := ⟨Tryz.f138.name, by decide, Tryz.func138.trans (congrArg some (by kernel_rfl))⟩
  f22 := ⟨Tryz.f139.name, by decide, Tryz.func139.trans (congrArg some (by kernel_rfl))⟩
  f23 := ⟨Tryz.f140.name, by decide, Tryz.func140.trans (congrArg some (by kernel_rfl))⟩
  f24 := ⟨Tryz.f141.name, by decide, Tryz.func141.trans (congrArg some (by kernel_rfl))⟩
  f25 := ⟨Tryz.f142.name, by decide, Tryz.func142.trans (congrArg some (by kernel_rfl))⟩
  f26 := ⟨Tryz.f143.name, by decide, Tryz.func143.trans (congrArg some (by kernel_rfl))⟩
  f27 := ⟨Tryz.f144.name, by decide, Tryz.func144.trans (congrArg some (by kernel_rfl))⟩
  f28 := Tryz.func134.trans (congrArg some (by kernel_rfl))
  f29 := Tryz.func135.trans (congrArg some (by kernel_rfl))
  f46 := ⟨Tryz.f178.name, by decide, Tryz.func178.trans (congrArg some (by kernel_rfl))⟩
  f47 := Tryz.func172.trans (congrArg some (by kernel_rfl))
  f48 := Tryz.func173.trans (congrArg some (by kernel_rfl))
  f49 := ⟨Tryz.f179.name, by decide, Tryz.func179.trans (congrArg some (by kernel_rfl))⟩
  f50 := ⟨Tryz.f180.name, by decide, Tryz.func180.trans (congrArg some (by kernel_rfl))⟩
  f57 := ⟨Tryz.f191.name, by decide, Tryz.func191.trans (congrArg some (by kernel_rfl))⟩
  t0 := Tryz.underlying0
  a0 := Tryz.isAgg0
  z0 := Tryz.sizeOf0
  v0 := Tryz.zeroValue0
  t3 := Tryz.underlying3
  a3 := Tryz.isAgg3
  z3 := Tryz.sizeOf3
  v3 := Tryz.zeroValue3
  t4 := Tryz.underlying4
  a4 := Tryz.isAgg4
  z4 := Tryz.sizeOf4
  v4 := Tryz.zeroValue4
  t5 := Tryz.underlying5
  a5 := Tryz.isAgg5
  z5 := Tryz.sizeOf5
  v5 := Tryz.zeroValue5
  t9 := Tryz.underlying9
  a9 := Tryz.isAgg9
  z9 := Tryz.sizeOf9
  v9 := Tryz.zeroValue9
  t22 := Tryz.underlying28
  a22 := Tryz.isAgg28
  z22 := Tryz.sizeOf28
  v22 := Tryz.zeroValue28
  t25 := Tryz.underlying123
  a25 := Tryz.isAgg123
  z25 := Tryz.sizeOf123
  v25 := Tryz.zeroValue123
  t39 := Tryz.underlying77
  a39 := Tryz.isAgg77
  z39 := Tryz.sizeOf77
  v39 := Tryz.zeroValue77
  t45 := Tryz.underlying156
  a45 := Tryz.isAgg156
  z45 := Tryz.sizeOf156
  v45 := Tryz.zeroValue156
  t46 := Tryz.underlying157
  a46 := Tryz.isAgg157
  z46 := Tryz.sizeOf157
  v46 := Tryz.zeroValue157
  t50 := Tryz.underlying104
  a50 := Tryz.isAgg104
  z50 := Tryz.sizeOf104
  v50 := Tryz.zeroValue104
  t53 := Tryz.underlying163
  a53 := Tryz.isAgg163
  z53 := Tryz.sizeOf163
  v53 := Tryz.zeroValue163
  t55 := Tryz.underlying165
  a55 := Tryz.isAgg165
  z55 := Tryz.sizeOf165
  v55 := Tryz.zeroValue165
  t66 := Tryz.underlying192
  a66 := Tryz.isAgg192
  z66 := Tryz.sizeOf192
  v66 := Tryz.zeroValue192
  t70 := Tryz.underlying196
  a70 := Tryz.isAgg196
  z70 := Tryz.sizeOf196
  v70 := Tryz.zeroValue196
  t76 := Tryz.underlying207
  a76 := Tryz.isAgg207
  z76 := Tryz.sizeOf207
  v76 := Tryz.zeroValue207
  t77 := Tryz.underlying208
  a77 := Tryz.isAgg208
  z77 := Tryz.sizeOf208
  v77 := Tryz.zeroValue208 }
def Tryz.sortEdge_ren : Go.Shelf.Ren := ⟨fun | 6 => 94 | 15 => 112 | 14 => 120 | 28 => 134 | 29 => 135 | 20 => 145 | 21 => 146 | 22 => 147 | 23 => 148 | 24 => 149 | 25 => 150 | 26 => 151 | 27 => 152 | 46 => 181 | 47 => 172 | 48 => 173 | 49 => 182 | 50 => 183 | 57 => 192 | n => n, fun | 22 => 35 | 24 => 39 | 25 => 125 | 3 => 3 | 39 => 77 | 0 => 0 | 53 => 163 | 55 => 165 | 4 => 4 | 46 => 157 | 45 => 156 | 50 => 104 | 5 => 5 | 9 => 9 | 66 => 192 | 70 => 196 | 76 => 207 | 77 => 208 | n => n, fun | n => n⟩
theorem Tryz.sortEdge : Go.Proofs.SlLaysF0.n6 Tryz.prog Tryz.sortEdge_ren := {
  mixed := by kernel_rfl
  f6 := ⟨Tryz.f94.name, by decide, Tryz.func94.trans (congrArg some (by kernel_rfl))⟩
  f14 := ⟨Tryz.f120.name, by decide, Tryz.func120.trans (congrArg some (by kernel_rfl))⟩
  f15 := Tryz.func112.trans (congrArg some (by kernel_rfl))
  f20 := ⟨Tryz.f145.name, by decide, Tryz.func145.trans (congrArg some (by kernel_rfl))⟩
  f21 := ⟨Tryz.f146.name, by decide, Tryz.func146.trans (congrArg some (by kernel_rfl))⟩
  f22 := ⟨Tryz.f147.name, by decide, Tryz.func147.trans (congrArg some (by kernel_rfl))⟩
  f23 := ⟨Tryz.f148.name, by decide, Tryz.func148.trans (congrArg some (by kernel_rfl))⟩
  f24 := ⟨Tryz.f149.name, by decide, Tryz.func149.trans (congrArg some (by kernel_rfl))⟩
  f25 := ⟨Tryz.f150.name, by decide, Tryz.func150.trans (congrArg some (by kernel_rfl))⟩
  f26 := ⟨Tryz.f151.name, by decide, Tryz.func151.trans (congrArg some (by kernel_rfl))⟩
  f27 := ⟨Tryz.f152.name, by decide, Tryz.func152.trans (congrArg some (by kernel_rfl))⟩
  f28 := Tryz.func134.trans (congrArg some (by kernel_rfl))
  f29 := Tryz.func135.trans (congrArg some (by kernel_rfl))
  f46 := ⟨Tryz.f181.name, by decide, Tryz.func181.trans (congrArg some (by kernel_rfl))⟩
  f47 := Tryz.func172.trans (congrArg some (by kernel_rfl))
  f48 := Tryz.func173.trans (congrArg some (by kernel_rfl))
  f49 := ⟨Tryz.f182.name, by decide, Tryz.func182.trans (congrArg some (by kernel_rfl))⟩
  f50 := ⟨Tryz.f183.name, by decide, Tryz.func183.trans (congrArg some (by kernel_rfl))⟩
  f57 := ⟨Tryz.f192.name, by decide, Tryz.func192.trans (congrArg some (by kernel_rfl))⟩
  t0 := Tryz.underlying0
  a0 := Tryz.isAgg0
  z0 := Tryz.sizeOf0
  v0 := Tryz.zeroValue0
  t3 := Tryz.underlying3
  a3 := Tryz.isAgg3
  z3 := Tryz.sizeOf3
  v3 := Tryz.zeroValue3
  t4 := Tryz.underlying4
  a4 := Tryz.isAgg4
  z4 := Tryz.sizeOf4
  v4 := Tryz.zeroValue4
  t5 := Tryz.underlying5
  a5 := Tryz.isAgg5
  z5 := Tryz.sizeOf5
  v5 := Tryz.zeroValue5
  t9 := Tryz.underlying9
  a9 := Tryz.isAgg9
  z9 := Tryz.sizeOf9
  v9 := Tryz.zeroValue9
  t22 := Tryz.underlying35
  a22 := Tryz.isAgg35
  z22 := Tryz.sizeOf35
  v22 := Tryz.zeroValue35
  t25 := Tryz.underlying125
  a25 := Tryz.isAgg125
  z25 := Tryz.sizeOf125
  v25 := Tryz.zeroValue125
  t39 := Tryz.underlying77
  a39 := Tryz.isAgg77
  z39 := Tryz.sizeOf77
  v39 := Tryz.zeroValue77
  t45 := Tryz.underlying156
  a45 := Tryz.isAgg156
  z45 := Tryz.sizeOf156
  v45 := Tryz.zeroValue156
  t46 := Tryz.underlying157
  a46 := Tryz.isAgg157
  z46 := Tryz.sizeOf157
  v46 := Tryz.zeroValue157
  t50 := Tryz.underlying104
  a50 := Tryz.isAgg104
  z50 := Tryz.sizeOf104
  v50 := Tryz.zeroValue104
  t53 := Tryz.underlying163
  a53 := Tryz.isAgg163
  z53 := Tryz.sizeOf163
  v53 := Tryz.zeroValue163
  t55 := Tryz.underlying165
  a55 := Tryz.isAgg165
  z55 := Tryz.sizeOf165
  v55 := Tryz.zeroValue165
  t66 := Tryz.underlying192
  a66 := Tryz.isAgg192
  z66 := Tryz.sizeOf192
  v66 := Tryz.zeroValue192
  t70 := Tryz.underlying196
  a70 := Tryz.isAgg196
  z70 := Tryz.sizeOf196
  v70 := Tryz.zeroValue196
  t76 := Tryz.underlying207
  a76 := Tryz.isAgg207
  z76 := Tryz.sizeOf207
  v76 := Tryz.zeroValue207
  t77 := Tryz.underlying208
  a77 := Tryz.isAgg208
  z77 := Tryz.sizeOf208
  v77 := Tryz.zeroValue208 }
def Tryz.bitsLen_ren : Go.Shelf.Ren := ⟨fun | 125 => 112 | 128 => 134 | 129 => 135 | n => n, fun | 46 => 77 | 3 => 3 | 51 => 163 | 53 => 165 | 4 => 4 | 5 => 5 | 9 => 9 | n => n, fun | n => n⟩
theorem Tryz.bitsLen : Go.Proofs.Lays.n125 Tryz.prog Tryz.bitsLen_ren := {
  mixed := by kernel_rfl
  f125 := Tryz.func112.trans (congrArg some (by kernel_rfl))
  f128 := Tryz.func134.trans (congrArg some (by kernel_rfl))
  f129 := Tryz.func135.trans (congrArg some (by kernel_rfl))
  t3 := Tryz.underlying3
  a3 := Tryz.isAgg3
  z3 := Tryz.sizeOf3
  v3 := Tryz.zeroValue3
  t4 := Tryz.underlying4
  a4 := Tryz.isAgg4
  z4 := Tryz.sizeOf4
  v4 := Tryz.zeroValue4
  t5 := Tryz.underlying5
  a5 := Tryz.isAgg5
  z5 := Tryz.sizeOf5
  v5 := Tryz.zeroValue5
  t9 := Tryz.underlying9
  a9 := Tryz.isAgg9
  z9 := Tryz.sizeOf9
  v9 := Tryz.zeroValue9
  t46 := Tryz.underlying77
  a46 := Tryz.isAgg77
  z46 := Tryz.sizeOf77
  v46 := Tryz.zeroValue77
  t51 := Tryz.underlying163
  a51 := Tryz.isAgg163
  z51 := Tryz.sizeOf163
  v51 := Tryz.zeroValue163
  t53 := Tryz.underlying165
  a53 := Tryz.isAgg165
  z53 := Tryz.sizeOf165
  v53 := Tryz.zeroValue165 }
end Go.Proofs
set_option linter.unusedVariables false
set_option linter.unusedSimpArgs false
namespace Go.Proofs.YtcoddcdiimpndaaGreatDoor
open Go.RowKit Go.Sort
section
variable {α : Type} [Inhabited α]
theorem flat_get (enc : α → List Value) (k : Nat) (hk : ∀ x, (enc x).length = k) : ∀ (l : List α) (t : Nat), t < l.length * k → (l.flatMap enc)[t]? = some ((enc (l[t / k]!))[t % k]!)
  | [], t, h => by simp at h
  | x :: l, t, h => by
    have k0 : 0 < k := by
      rcases Nat.eq_zero_or_pos k with e | e
      · subst e; simp at h
      · exact e
    rw [List.flatMap_cons]
    by_cases ht : t < k
    · rw [List.getElem?_append_left (by rw [hk]; exact ht), Nat.div_eq_of_lt ht, Nat.mod_eq_of_lt ht]
      have : t < (enc x).length := by rw [hk]; exact ht
      simp [this]
    · obtain ⟨u, rfl⟩ : ∃ u, t = u + k := ⟨t - k, by omega⟩
      rw [List.getElem?_append_right (by rw [hk]; omega), hk, Nat.add_sub_cancel, Nat.add_div_right _ k0, Nat.add_mod_right,
        flat_get enc k hk l u (by rw [List.length_cons, Nat.add_mul] at h; omega)]
      rfl
theorem get_arr {β : Type} [Inhabited β] (d : Array β) (i : Nat) : d.toList[i]! = d[i]! := by
  rw [List.getElem!_eq_getElem?_getD, Array.getElem?_toList, Array.getElem!_eq_getD, Array.getD_eq_getD_getElem?]
theorem flat_len {β : Type} (enc : β → List Value) (k : Nat) (hk : ∀ x, (enc x).length = k) : ∀ l : List β, (l.flatMap enc).length = l.length * k
  | [] => by simp
  | x :: l => by rw [List.flatMap_cons, List.length_append, hk, flat_len enc k hk l, List.length_cons, Nat.add_mul]; omega
theorem flatK_toList (enc : α → List Value) (k : Nat) (hk : ∀ x, (enc x).length = k) (d : Array α) : (flatK enc k d).toList = d.toList.flatMap enc := by
  apply List.ext_getElem?
  intro t
  by_cases ht : t < d.size * k
  · rw [flat_get enc k hk d.toList t (by simpa using ht)]
    have h1 := get_flatK enc k d t ht
    have h2 : t < (flatK enc k d).size := by simpa using ht
    rw [getElem!_pos _ t h2] at h1
    rw [Array.getElem?_toList, Array.getElem?_eq_getElem h2, h1, get_arr d]
  · rw [List.getElem?_eq_none (by simpa using Nat.le_of_not_lt ht), List.getElem?_eq_none]
    have : (d.toList.flatMap enc).length = d.size * k := by
      rw [flat_len enc k hk]
      simp
    omega
variable {w : World} {base g cap n : Nat} {e : TypeId} {k : Nat} {enc : α → List Value} {d d' : Array α}
theorem own_holds (hk : ∀ x, (enc x).length = k) (hn : n = d.size) (h : w.ownsRow base e k (.slice (some ⟨g, 0, none⟩) n cap) n (d.toList.flatMap enc)) : HoldsK enc k w g 0 d := by
  intro j hj
  rw [size_flatK] at hj
  subst hn
  rw [Nat.zero_add]
  refine ⟨?_, h.frozenAt j⟩
  rw [h.cellAt j hj, flat_get enc k hk d.toList j (by simpa using hj), get_flatK enc k d j hj, get_arr d]
  rfl
theorem setMany_all (F G : Array Value) (h : G.size = F.size) : setMany F 0 G.toList = G := by
  refine ext_get! (by simp [h]) fun t ht => ?_
  have ht' : t < F.size := by simpa using ht
  rw [get_setMany _ _ _ t ht', if_pos ⟨Nat.zero_le _, by simp; omega⟩, Nat.sub_zero, get_arr]
def setL : List Value → Nat → List Value → List Value
  | xs, _, [] => xs
  | xs, o, v :: r => setL (xs.set o v) (o + 1) r
theorem setL_all : ∀ (vs mid pre : List Value), mid.length = vs.length → setL (pre ++ mid) pre.length vs = pre ++ vs
  | [], mid, pre, h => by
    have : mid = [] := List.length_eq_zero_iff.1 h
    rw [this]; rfl
  | v :: r, mid, pre, h => by
    cases mid with
    | nil => simp at h
    | cons m mid =>
      have := setL_all r mid (pre ++ [v]) (by simpa using h)
      simp only [setL]
      rw [List.set_append_right _ _ (Nat.le_refl _)]
      simpa using this
theorem own_setCells : ∀ (vs xs : List Value) (o : Nat) (w : World), w.ownsRow base e k (.slice (some ⟨g, 0, none⟩) n cap) n xs → (w.setCells g o vs).ownsRow base e k (.slice (some ⟨g, 0, none⟩) n cap) n (setL xs o vs)
  | [], xs, o, w, h => h
  | v :: r, xs, o, w, h => own_setCells r (xs.set o v) (o + 1) _ (h.stored o v).1
theorem sortW_eq (hk : ∀ x, (enc x).length = k) (hn : n = d.size) (h : w.ownsRow base e k (.slice (some ⟨g, 0, none⟩) n cap) n (d.toList.flatMap enc)) (hs : d'.size = d.size) (m : Nat) (os : Array Obj) :
    Go.Proofs.sortWorldK enc k w g 0 m d' os = Sort.grow ((Sort.ahead w m).setCells g 0 (d'.toList.flatMap enc)) os := by
  unfold Go.Proofs.sortWorldK putRowK
  have h1 := setCells_putRow (Sort.ahead w m) g 0 (flatK enc k d').toList 0 (flatK enc k d) (by simp [hs])
  rw [setMany_all _ _ (by simp [hs]), putRow_self id (Sort.ahead w m) g 0 _ (own_holds hk hn h)] at h1
  rw [← h1, flatK_toList enc k hk]
theorem grown_grow (w : World) (os : Array Obj) (row : Option Nat) : w.grownBy (Sort.grow w os) row :=
  ⟨rfl, rfl, rfl, by simp [Sort.grow], fun i hi _ => by simp only [Sort.grow]; rw [Array.getElem?_append_left hi]⟩
theorem own_sorted (hk : ∀ x, (enc x).length = k) (hn : n = d.size) (h : w.ownsRow base e k (.slice (some ⟨g, 0, none⟩) n cap) n (d.toList.flatMap enc)) (hs : d'.size = d.size) (m : Nat) (os : Array Obj) :
    (Go.Proofs.sortWorldK enc k w g 0 m d' os).ownsRow base e k (.slice (some ⟨g, 0, none⟩) n cap) n (d'.toList.flatMap enc) ∧ Below base w (Go.Proofs.sortWorldK enc k w g 0 m d' os) := by
  rw [sortW_eq hk hn h hs]
  have hl := (h.lt g rfl)
  have hz : ∀ d : Array α, (d.toList.flatMap enc).length = d.size * k := fun d => by rw [flat_len enc k hk]; simp
  constructor
  · have h1 : (Sort.ahead w m).ownsRow base e k (.slice (some ⟨g, 0, none⟩) n cap) n (d.toList.flatMap enc) := h
    have h2 := own_setCells (d'.toList.flatMap enc) _ 0 _ h1
    have h3 := setL_all (d'.toList.flatMap enc) (d.toList.flatMap enc) [] (by rw [hz, hz, hs])
    simp only [List.nil_append, List.length_nil] at h3
    rw [h3] at h2
    exact h2.kept (grown_grow _ os none) (.inr (by simp [Value.ownBlock]))
  · have h1 : Below base w (Sort.ahead w m) := ⟨rfl, rfl, rfl, Nat.le_refl _, fun _ _ => rfl⟩
    have h2 := Below.setCells hl.1 (d'.toList.flatMap enc) 0 _ h1
    have h3 := grown_grow ((Sort.ahead w m).setCells g 0 (d'.toList.flatMap enc)) os none
    have h4 : base ≤ ((Sort.ahead w m).setCells g 0 (d'.toList.flatMap enc)).heap.size := by
      rw [size_setCells]
      exact Nat.le_trans hl.1 (Nat.le_of_lt hl.2)
    exact h2.grown h3 h4 (by simp)
end
/-- A share: a node and its weight. -/
structure Sh where
  node : Int
  w : Int
deriving DecidableEq, Inhabited
def shc (s : Sh) : List Value := [.int .i64 s.node, .int .i64 s.w]
def cellsS (l : List Sh) : List Value := l.flatMap shc
theorem cellsS_snoc (l : List Sh) (a b : Int) : cellsS (l ++ [⟨a, b⟩]) = cellsS l ++ [.int .i64 a, .int .i64 b] := by simp [cellsS, shc]
def cmpS (x y : Sh) : Int := IntKind.i64.wrap (x.node - y.node)
def sortS (l : List Sh) : List Sh := (Sort.insertionSort (ltOf cmpS) l.toArray 0 l.length).toList
def rawTo (l : List Pl) (f : Int) (qx qy qz W : Nat → Int) : Nat → List Sh
  | 0 => []
  | j + 1 => rawTo l f qx qy qz W j ++ if 0 < W j then [⟨(ix l (normPl f (qx j) (qy j) (qz j)) : Nat), W j⟩] else []
theorem rawTo_le (l : List Pl) (f : Int) (qx qy qz W : Nat → Int) : ∀ j, (rawTo l f qx qy qz W j).length ≤ j
  | 0 => Nat.le_refl _
  | j + 1 => by
    have := rawTo_le l f qx qy qz W j
    rw [rawTo, List.length_append]
    split <;> simp <;> omega
theorem infoSh : (Tryz.prog.info? 54).map (fun i => (i.zero, i.size, i.bytes)) = some (some (.agg #[.int .i64 0, .int .i64 0]), 2, 16) := by kernel_rfl
/-- The coordinate i of the corner j of a small triangle. -/
def qc (up : Bool) (h base : Int) (i j : Nat) : Int := base + if decide (i = j) == up then h else 0
/-- The weight of the corner j. -/
def lw (up : Bool) (X Y Z : Int) (j : Nat) : Int :=
  let v := if j = 0 then X else if j = 1 then Y else Z
  if up then v else 840 - v
/-- The shares of a place of face f with remainders. -/
def locS (l : List Pl) (h n : Nat) (f a b c : Int) : List Sh :=
  let X := a % (h : Int) * (n : Int); let Y := b % (h : Int) * (n : Int); let Z := c % (h : Int) * (n : Int)
  if X + Y + Z = 0 then [⟨(ix l (normPl f a b c) : Nat), 840⟩]
  else
    let up := decide (X + Y + Z = 840)
    sortS (rawTo l f (qc up h (a - a % (h : Int)) 0) (qc up h (b - b % (h : Int)) 1) (qc up h (c - c % (h : Int)) 2) (lw up X Y Z) 3)
end Go.Proofs.YtcoddcdiimpndaaGreatDoor
set_option linter.unusedVariables false
set_option linter.unusedSimpArgs false
namespace Go.Proofs.YtcoddcdiimpndaaGreatDoor
open Go.RowKit Go.Sort
theorem size_insInner {α : Type} [Inhabited α] (lt : α → α → Bool) (a : Nat) : ∀ (j : Nat) (d : Array α), (insInner lt a j d).size = d.size
  | 0, _ => rfl
  | j + 1, d => by
    unfold insInner
    split
    · rw [size_insInner lt a j, size_swp]
    · rfl
theorem size_insOuter {α : Type} [Inhabited α] (lt : α → α → Bool) (a b : Nat) : ∀ (m i : Nat) (d : Array α), b - i = m → (insOuter lt a b i d).size = d.size
  | 0, i, d, h => by
    unfold insOuter
    rw [if_neg (by omega)]
  | m + 1, i, d, h => by
    unfold insOuter
    rw [if_pos (by omega), size_insOuter lt a b m (i + 1) _ (by omega), size_insInner]
theorem size_insS {α : Type} [Inhabited α] (lt : α → α → Bool) (d : Array α) (a b : Nat) : (Sort.insertionSort lt d a b).size = d.size := size_insOuter lt a b _ _ d rfl
set_option maxHeartbeats 1000000 in
theorem less_any (x y : Sh) (W : World) : Calls Tryz.prog 104 #[.agg #[.int .i64 x.node, .int .i64 x.w], .agg #[.int .i64 y.node, .int .i64 y.w]] W fun e w' => e = .returned (.int .i64 (cmpS x y)) ∧ ∃ q os', w' = Sort.grow (W.drewN q) os' := by
  go_enter Tryz.func104, Tryz.ntmps104
  go_wp2
  go_ret
  refine ⟨?_, 0, _, by rw [alloc_eq_grow, alloc_eq_grow, grow_grow]; rfl⟩
  unfold cmpS
  rw [IntWalk.i64_left]
  rfl
theorem bits2 (n : Nat) (W : World) (h : n ≤ 12) : Calls Tryz.prog 112 #[.int .u64 n] W fun e w' => (∃ l : Int, e = .returned (.int .i64 l)) ∧ w' = W :=
  (Any.bits_Len Tryz.bitsLen n W (by omega) (by omega)).mono fun _ _ ⟨he, hw⟩ => ⟨⟨_, he⟩, hw⟩
/-- The sort of a row of shares that a call owns. -/
theorem sort_any (L : List Sh) (base g cap : Nat) (w : World) (h12 : L.length ≤ 12) (h : w.ownsRow base 54 2 (.slice (some ⟨g, 0, none⟩) L.length cap) L.length (cellsS L)) :
    Calls Tryz.prog 103 #[.slice (some ⟨g, 0, none⟩) L.length cap, .func (.func 104) #[] #[]] w fun e w' => e = .returned (.tuple #[]) ∧ w'.ownsRow base 54 2 (.slice (some ⟨g, 0, none⟩) L.length cap) L.length (cellsS (sortS L)) ∧ Below base w w' := by
  have hk : ∀ x, (shc x).length = 2 := fun _ => rfl
  have hrow : w.ownsRow base 54 2 (.slice (some ⟨g, 0, none⟩) L.length cap) L.length (L.toArray.toList.flatMap shc) := h
  have hH := own_holds hk (by simp) hrow
  have eg : ∀ args w, (callFunc 104 args).run Tryz.prog w = .ok (.enter 104 args) w := enters_of Tryz.func104 (by kernel_rfl) rfl
  have hc := AnyQ.slices_SortFunc_small Tryz.sortShare 2 Tryz.isAgg54 Tryz.sizeOf54 shc hk (fun x v hv => by simp [shc] at hv; rcases hv with rfl | rfl <;> rfl) cmpS 104 #[] g 0 cap L.toArray w eg (fun _ _ _ _ x y => less_any x y _) hH (h.lt g rfl).2 (by simpa using h12) bits2
  refine hc.mono ?_
  rintro e w' ⟨rfl, m, os, rfl⟩
  have hz : (Sort.insertionSort (ltOf cmpS) L.toArray 0 L.toArray.size).size = L.toArray.size := size_insS _ _ _ _
  have := own_sorted hk (by simp) hrow hz m os
  exact ⟨rfl, by simpa [sortS, cellsS] using this⟩
theorem sortS_length (L : List Sh) : (sortS L).length = L.length := by simp [sortS, size_insS]
end Go.Proofs.YtcoddcdiimpndaaGreatDoor
