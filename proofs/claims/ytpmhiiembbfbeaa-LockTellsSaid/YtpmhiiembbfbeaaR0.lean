/- The seat's types, as plain data. -/
import Derived.Test.YtpmhiiembbfbeaaV23
import Derived.Test.YtpmhiiembbfbeaaK21
set_option maxRecDepth 100000
set_option linter.all false
namespace Go.Proofs.Ve
open Go
theorem all_map {α β : Type} {f : α → β} : ∀ (xs : List β), (∀ y ∈ xs, ∃ a, y = f a) → ∃ l : List α, xs = l.map f
  | [], _ => ⟨[], rfl⟩
  | y :: ys, h => by
    obtain ⟨a, rfl⟩ := h y (List.mem_cons_self ..)
    obtain ⟨l, rfl⟩ := all_map ys (fun z hz => h z (List.mem_cons_of_mem _ hz))
    exact ⟨a :: l, rfl⟩
theorem fit_bytes {y : DV} (h : FitC (.sl [.int .u8]) y) : ∃ b, y = encB b := by
  obtain ⟨xs, rfl, _, h2⟩ := h.sl_inv
  obtain ⟨l, rfl⟩ := all_map (f := fun x : UInt8 => [DV.int .u8 x.toNat]) xs (fun z hz => by
    obtain ⟨u, z', rfl, hu, hz'⟩ := (h2 z hz).cons
    cases hz'.done
    obtain ⟨n, rfl, hn⟩ := hu.int_inv
    simp only [Lit.wf, Bool.and_eq_true, decide_eq_true_eq] at hn
    have hmin : IntKind.u8.min = 0 := by decide
    have hmax : IntKind.u8.max = 255 := by decide
    rw [hmin, hmax] at hn
    refine ⟨UInt8.ofNat n.toNat, ?_⟩
    have : ((UInt8.ofNat n.toNat).toNat : Int) = n := by rw [UInt8.toNat_ofNat']; omega
    rw [this])
  exact ⟨l, rfl⟩
def ctLock : List CT := [.int .i64, .bool, .int .i64, .sl [.int .u8], .sl [.int .u8], .bool, .int .i64]
theorem fit_lock {ds : List DV} (h : FitR ctLock ds) : ∃ x : Lock, ds = cLock x := by
  obtain ⟨_, _, rfl, h1, h⟩ := h.cons
  obtain ⟨_, _, rfl, h2, h⟩ := h.cons
  obtain ⟨_, _, rfl, h3, h⟩ := h.cons
  obtain ⟨_, _, rfl, h4, h⟩ := h.cons
  obtain ⟨_, _, rfl, h5, h⟩ := h.cons
  obtain ⟨_, _, rfl, h6, h⟩ := h.cons
  obtain ⟨_, _, rfl, h7, h⟩ := h.cons
  cases h.done
  obtain ⟨a, rfl, _⟩ := h1.int_inv
  obtain ⟨b, rfl⟩ := h2.bool_inv
  obtain ⟨c, rfl, _⟩ := h3.int_inv
  obtain ⟨d, rfl⟩ := fit_bytes h4
  obtain ⟨e, rfl⟩ := fit_bytes h5
  obtain ⟨f, rfl⟩ := h6.bool_inv
  obtain ⟨g, rfl, _⟩ := h7.int_inv
  exact ⟨⟨a, b, ⟨c, d, e, f⟩, g⟩, rfl⟩
theorem fit_list {y : DV} (h : FitC (.sl ctLock) y) : ∃ l : List Lock, y = encLocks l := by
  obtain ⟨xs, rfl, _, h2⟩ := h.sl_inv
  obtain ⟨l, rfl⟩ := all_map (f := cLock) xs (fun z hz => fit_lock (h2 z hz))
  exact ⟨l, rfl⟩
def ctLocks : List CT := [.sl ctLock, .sl ctLock]
theorem fit_locks {ds : List DV} (h : FitR ctLocks ds) : ∃ l : Locks, pOf true ds = pLocks l := by
  obtain ⟨_, _, rfl, h1, h⟩ := h.cons
  obtain ⟨_, _, rfl, h2, h⟩ := h.cons
  cases h.done
  obtain ⟨a, rfl⟩ := fit_list h1
  obtain ⟨b, rfl⟩ := fit_list h2
  exact ⟨⟨a, b⟩, rfl⟩
theorem fit_plock {ds : List DV} (h : FitR ctLock ds) : ∃ x : Lock, pOf true ds = pLock x := by
  obtain ⟨x, rfl⟩ := fit_lock h
  exact ⟨x, rfl⟩
theorem fit_int {k : IntKind} {ds : List DV} (h : FitR [.int k] ds) : ∃ n, pOf false ds = .d (.int k n) ∧ (Lit.int k n).wf = true := by
  obtain ⟨_, _, rfl, h1, h⟩ := h.cons
  cases h.done
  obtain ⟨a, rfl, hw⟩ := h1.int_inv
  exact ⟨a, rfl, hw⟩
end Go.Proofs.Ve
