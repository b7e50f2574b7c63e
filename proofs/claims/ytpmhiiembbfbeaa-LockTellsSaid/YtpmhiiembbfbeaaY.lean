/- The types' rows, and that the program has them. (No statement is proved here.) -/
import Derived.Test.YtpmhiiembbfbeaaV21
import Derived.Test.YtpmhiiembbfbeaaShelf
set_option linter.all false
set_option maxRecDepth 100000
namespace Go.Proofs.Ve
open Go
def lay : List TyRow := [
  ⟨2, .int .i64, 1, 8, [.d (.int .i64 0)]⟩,
  ⟨3, .int .i64, 1, 8, [.d (.int .i64 0)]⟩,
  ⟨4, .bool, 1, 1, [.kb false]⟩,
  ⟨5, .int .u8, 1, 1, [.d (.int .u8 0)]⟩,
  ⟨9, .str, 1, 16, [.d (.str ⟨#[]⟩)]⟩,
  ⟨12, .int .u64, 1, 8, [.d (.int .u64 0)]⟩,
  ⟨21, .int .i32, 1, 4, [.d (.int .i32 0)]⟩,
  ⟨22, .slice 29, 1, 24, [.nils]⟩,
  ⟨23, .struct [(0, 22), (1, 22)], 2, 48, [.nils, .nils]⟩,
  ⟨24, .struct [(0, 22), (1, 22)], 2, 48, [.nils, .nils]⟩,
  ⟨25, .slice 5, 1, 24, [.nils]⟩,
  ⟨26, .struct [(0, 3), (1, 25), (2, 25), (3, 4)], 4, 64, [.d (.int .i64 0), .nils, .nils, .kb false]⟩,
  ⟨27, .struct [(0, 3), (1, 25), (2, 25), (3, 4)], 4, 64, [.d (.int .i64 0), .nils, .nils, .kb false]⟩,
  ⟨28, .struct [(0, 3), (1, 4), (2, 27), (6, 3)], 7, 88, [.d (.int .i64 0), .kb false, .d (.int .i64 0), .nils, .nils, .kb false, .d (.int .i64 0)]⟩,
  ⟨29, .struct [(0, 3), (1, 4), (2, 27), (6, 3)], 7, 88, [.d (.int .i64 0), .kb false, .d (.int .i64 0), .nils, .nils, .kb false, .d (.int .i64 0)]⟩,
  ⟨34, .slice 3, 1, 24, [.nils]⟩,
  ⟨39, .slice 41, 1, 24, [.nils]⟩,
  ⟨40, .struct [(0, 29), (7, 4)], 8, 96, [.d (.int .i64 0), .kb false, .d (.int .i64 0), .nils, .nils, .kb false, .d (.int .i64 0), .kb false]⟩,
  ⟨41, .struct [(0, 29), (7, 4)], 8, 96, [.d (.int .i64 0), .kb false, .d (.int .i64 0), .nils, .nils, .kb false, .d (.int .i64 0), .kb false]⟩,
  ⟨44, .int .i64, 1, 8, [.d (.int .i64 0)]⟩,
  ⟨50, .slice 60, 1, 24, [.nils]⟩,
  ⟨51, .arr 4 3, 4, 32, [.d (.int .i64 0), .d (.int .i64 0), .d (.int .i64 0), .d (.int .i64 0)]⟩,
  ⟨59, .arr 4 4, 4, 4, [.kb false, .kb false, .kb false, .kb false]⟩,
  ⟨60, .arr 2 3, 2, 16, [.d (.int .i64 0), .d (.int .i64 0)]⟩,
  ⟨63, .struct [(0, 3), (1, 3), (2, 25), (3, 25), (4, 4), (5, 25), (6, 3)], 7, 104, [.d (.int .i64 0), .d (.int .i64 0), .nils, .nils, .kb false, .nils, .d (.int .i64 0)]⟩,
  ⟨64, .struct [(0, 3), (1, 3), (2, 25), (3, 25), (4, 4), (5, 25), (6, 3)], 7, 104, [.d (.int .i64 0), .d (.int .i64 0), .nils, .nils, .kb false, .nils, .d (.int .i64 0)]⟩,
  ⟨67, .struct [(0, 3), (1, 25), (2, 4), (3, 25)], 4, 64, [.d (.int .i64 0), .nils, .kb false, .nils]⟩,
  ⟨68, .struct [(0, 3), (1, 25), (2, 4), (3, 25)], 4, 64, [.d (.int .i64 0), .nils, .kb false, .nils]⟩,
  ⟨69, .slice 68, 1, 24, [.nils]⟩,
  ⟨74, .slice 64, 1, 24, [.nils]⟩,
  ⟨77, .struct [(0, 24)], 2, 48, [.nils, .nils]⟩,
  ⟨78, .struct [(0, 24)], 2, 48, [.nils, .nils]⟩,
  ⟨95, .arr 4 3, 4, 32, [.d (.int .i64 0), .d (.int .i64 0), .d (.int .i64 0), .d (.int .i64 0)]⟩,
  ⟨97, .arr 4 59, 16, 16, [.kb false, .kb false, .kb false, .kb false, .kb false, .kb false, .kb false, .kb false, .kb false, .kb false, .kb false, .kb false, .kb false, .kb false, .kb false, .kb false]⟩,
  ⟨110, .arr 6 4, 6, 6, [.kb false, .kb false, .kb false, .kb false, .kb false, .kb false]⟩,
  ⟨111, .arr 6 110, 36, 36, [.kb false, .kb false, .kb false, .kb false, .kb false, .kb false, .kb false, .kb false, .kb false, .kb false, .kb false, .kb false, .kb false, .kb false, .kb false, .kb false, .kb false, .kb false, .kb false, .kb false, .kb false, .kb false, .kb false, .kb false, .kb false, .kb false, .kb false, .kb false, .kb false, .kb false, .kb false, .kb false, .kb false, .kb false, .kb false, .kb false]⟩,
  ⟨114, .slice 27, 1, 24, [.nils]⟩,
  ⟨121, .int .u64, 1, 8, [.d (.int .u64 0)]⟩,
  ⟨125, .slice 22, 1, 24, [.nils]⟩,
  ⟨129, .int .i64, 1, 8, [.d (.int .i64 0)]⟩,
  ⟨136, .int .u32, 1, 4, [.d (.int .u32 0)]⟩,
  ⟨138, .int .u64, 1, 8, [.d (.int .u64 0)]⟩,
  ⟨140, .int .u64, 1, 8, [.d (.int .u64 0)]⟩
]
noncomputable def X : Cx := ⟨Try.prog, lay, 136, [0, 1, 115], [25, 117, 118, 119, 122, 129], [63, 64, 85], [115], [(114, 29)]⟩
theorem all_cons {α : Type} {p : α → Prop} {r : α} {rs : List α} (h : p r) (hs : ∀ x ∈ rs, p x) : ∀ x ∈ r :: rs, p x := fun x hx => by cases hx with | head => exact h | tail _ h' => exact hs x h'
theorem cmp_ok {f : FuncId} {fn : Func} (h : Try.prog.funcs[f]? = some fn) (h1 : (fn.name == "runtime.NumGoroutine") = false) (h2 : fn.body.isNone = true) (h3 : (Extern.findNext fn).isNone = true) (h4 : Extern.find fn = some Extern.BytealgCompare.compare) : CmpOk Try.prog f := by
  intro a b w
  have h5 : Extern.findNext fn = none := by simpa using h3
  have h6 : ¬ fn.name = "runtime.NumGoroutine" := by simpa using h1
  have h7 : fn.body = none := by simpa using h2
  unfold callFunc
  simp [h, h5, h4, h6, h7]
theorem zeroCells_size (cs : Array Value) (n : Nat) : (Builtin.zeroCells cs n).size = n * cs.size := by
  unfold Builtin.zeroCells
  induction n with
  | zero => simp
  | succ n ih => simp_all [List.replicate_succ, Nat.succ_mul, Nat.add_comm]
theorem grow_ok {P : Program} {ρ : Go.Shelf.Ren} (L : Go.Proofs.Lays8.n4 P ρ) : GrowOk P (ρ.f 4) (ρ.t 25) := by
  intro n w
  refine ⟨fun h => ?_, fun i z hi hz hs hzc hn hb h6 => ?_⟩
  · subst h
    exact Any8.slices_Grow_room L none 0 0 0 w (Nat.le_refl _) (by omega) (by omega) (Nat.le_refl _)
  · refine (Any8.slices_Grow_grow L i z hi hz hs none 0 0 n [] w (Nat.le_refl _) (by omega) (by simpa using hb) (by omega) (by simp) (fun _ => rfl) (fun a h => by cases h)).mono ?_
    rintro e w' ⟨rfl, rfl⟩
    rw [show 0 + n = n by omega]
    refine ⟨grownCap w n 0 (ρ.t 25), _, rfl, rfl, ?_, grownCap_le_maxLen w n 0 _ (by unfold maxLen; omega)⟩
    have hge := grownCap_ge w n 0 (ρ.t 25)
    simp only [Array.size_append, zeroCells_size, hzc, List.size_toArray, List.length_nil, Nat.zero_add, Nat.sub_zero]
    rw [← Nat.add_mul, show n + (grownCap w n 0 (ρ.t 25) - n) = grownCap w n 0 (ρ.t 25) by omega]
theorem X_ok : X.Ok := by
  refine ⟨?_, by kernel_rfl, by kernel_rfl, by kernel_rfl, by kernel_rfl, ?_, ?_⟩
  · show ∀ r ∈ lay, RowOk Try.prog r
    unfold lay
    repeat (refine all_cons ⟨by kernel_rfl, by kernel_rfl⟩ ?_)
    intro r hr; cases hr
  · show ∀ f ∈ [115], CmpOk Try.prog f
    refine all_cons (cmp_ok Try.func115 rfl rfl rfl rfl) ?_
    intro f hf; cases hf
  · show ∀ p ∈ ([(114, 29)] : List (Nat × Nat)), GrowOk Try.prog p.1 p.2
    refine all_cons (grow_ok Try.laysGrow114) ?_
    intro f hf; cases hf
end Go.Proofs.Ve
