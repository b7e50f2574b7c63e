/- Loops of the library: contracts. -/
import Derived.Test.YtpmhiiembbfbeaaK1
set_option maxRecDepth 100000
set_option linter.all false
namespace Go.Proofs.Ve
open Go
theorem loopV_of {body : (Exit → List PV → List Blk → Prop) → List PV → List Blk → Prop} {K : Exit → List PV → List Blk → Prop} {tm : List PV} {top : List Blk} {ι : Type} (S : ι → LS) (I : ι → Prop) (μ : ι → Nat) (i0 : ι) (s0 : List Nat)
    (hI : I i0) (h0 : Ref s0 tm top (S i0).tm (S i0).top) (h : ∀ i, I i → body (fun e tm' top' => match e with | .normal => ∃ i' s, I i' ∧ μ i' < μ i ∧ Ref s tm' top' (S i').tm (S i').top | e => K e tm' top') (S i).tm (S i).top) : LoopV body K tm top := by
  unfold LoopV; exact ⟨ι, S, I, μ, ⟨i0, s0, hI, h0⟩, h⟩
def idxOf {α : Type} (p : α → Bool) : List α → Int → Int
  | [], _ => -1
  | x :: xs, k => bif p x then k else idxOf p xs (k + 1)
theorem idxOf_step {α : Type} {p : α → Bool} {l : List α} {k : Nat} {x : α} (h : l[k]? = some x) : idxOf p (l.drop k) k = bif p x then (k : Int) else idxOf p (l.drop (k + 1)) (k + 1 : Nat) := by
  have hk := (List.getElem?_eq_some_iff.1 h).1
  rw [List.drop_eq_getElem_cons hk]
  have : l[k] = x := (List.getElem?_eq_some_iff.1 h).2
  simp [idxOf, this]
theorem wrap_small {k : Int} (h0 : 0 ≤ k) (h1 : k < 9223372036854775808) : IntKind.i64.wrap k = k := by rw [IntKind.wrap_i64]; omega

theorem c116 (p : Span → Bool) (l0 i0 l1 i1 : Nat) (xs : List Span) (H : List (List Blk)) (hlen : xs.length < 1000000) (hp : ∀ x T, CallEq X (T :: H) 99 [pSpan x, .ptr (l0 + 2) i0 0, .ptr (l1 + 2) i1 0] (.d (.bool (p x))) []) :
    CallEq X H 116 [.d (.sl (xs.map cSpan)), .func (.func 99) [] [.ptr (l0 + 1) i0 0, .ptr (l1 + 1) i1 0]] (.d (.int .i64 (idxOf p xs 0))) [] := by
  refine callEq_of_body X_ok rfl Try.func116 rfl ?_
  conv => whnf
  refine loopV_of (fun k : Nat => ⟨[.d (.sl (xs.map cSpan)), .func (.func 99) [] [.ptr (l0 + 1) i0 0, .ptr (l1 + 1) i1 0], .any, .any, .any, .any, .any, .d (.int .i64 (xs.map cSpan).length), .d (.int .i64 k), .any, .any, .any, .any, .any, .any, .any, .any, .any, .any], []⟩) (fun k => k ≤ xs.length ∧ idxOf p xs 0 = idxOf p (xs.drop k) k) (fun k => xs.length - k) 0 [] ⟨Nat.zero_le _, by simp⟩ ?_ ?_
  · refine And.intro rfl (And.intro ?_ True.intro)
    repeat' (first | exact True.intro | exact rfl | refine And.intro ?_ ?_)
  · rintro k ⟨hk, hidx⟩
    conv => whnf
    refine And.intro (fun h_ => ?_) (fun h_ => ?_)
    · conv => whnf
      have hk' : k < xs.length := by simpa using h_
      obtain ⟨x, hx⟩ : ∃ x, xs[k]? = some x := ⟨_, List.getElem?_eq_getElem hk'⟩
      have hst := idxOf_step (p := p) hx
      refine ⟨by omega, cSpan x, by simp [hx], rfl, ?_⟩
      conv => whnf
      refine ⟨_, _, hp _ _, True.intro, ?_⟩
      conv => whnf
      refine And.intro (fun h1 => ?_) (fun h1 => ?_)
      · conv => whnf
        refine ⟨[], rfl, ?_, True.intro⟩
        show DV.int .i64 (k : Int) = .int .i64 (idxOf p xs 0)
        rw [hidx, hst, h1]; rfl
      · conv => whnf
        intro z hz
        conv => whnf
        rw [wrap_small (by omega) (by omega)] at hz
        subst hz
        refine ⟨k + 1, [], ⟨by omega, ?_⟩, by omega, And.intro rfl (And.intro ?_ True.intro)⟩
        · rw [hidx, hst, h1]; rfl
        · repeat' (first | exact True.intro | exact rfl | refine And.intro ?_ ?_)
    · conv => whnf
      have hk' : k = xs.length := by simp at h_; omega
      refine ⟨[], rfl, ?_, True.intro⟩
      show DV.int .i64 (-1) = .int .i64 (idxOf p xs 0)
      rw [hidx, hk', List.drop_length]; rfl
theorem idxOf_ge {α : Type} (p : α → Bool) : ∀ (l : List α) (k : Int), 0 ≤ k → decide (idxOf p l k ≥ 0) = l.any p
  | [], k, _ => rfl
  | x :: xs, k, hk => by
    have ih := idxOf_ge p xs (k + 1) (by omega)
    cases h : p x with
    | true => rw [idxOf, h, List.any_cons, h]; simpa using hk
    | false => rw [idxOf, h, List.any_cons, h]; exact ih
theorem c98 (p : Span → Bool) (l0 i0 l1 i1 : Nat) (xs : List Span) (H : List (List Blk)) (hlen : xs.length < 1000000) (hp : ∀ x T T', CallEq X (T :: T' :: H) 99 [pSpan x, .ptr (l0 + 3) i0 0, .ptr (l1 + 3) i1 0] (.d (.bool (p x))) []) :
    CallEq X H 98 [.d (.sl (xs.map cSpan)), .func (.func 99) [] [.ptr (l0 + 1) i0 0, .ptr (l1 + 1) i1 0]] (.d (.bool (xs.any p))) [] := by
  rw [← idxOf_ge p xs 0 (Int.le_refl _)]
  refine callEq_of_body X_ok rfl Try.func98 rfl ?_
  conv => whnf
  repeat' (first
    | (refine And.intro (fun h_ => ?_) (fun h_ => ?_) <;> (conv => whnf))
    | (refine ⟨_, _, c116 p _ _ _ _ xs _ hlen (fun x T => hp x T _), (by first | exact True.intro | exact And.intro rfl flat_nil), ?_⟩; conv => whnf)
    | (intro z_ hz_; conv => whnf)
    | (refine ⟨[], rfl, ?_, True.intro⟩; (conv => whnf); (first | done | (simp_all only [refP, Bool.not_true, Bool.not_false, Bool.true_and, Bool.false_and, Bool.and_true, Bool.and_false, Bool.true_or, Bool.false_or, Bool.or_true, Bool.or_false, Bool.not_not, Bool.not_eq_true', Bool.not_eq_false', if_true, if_false, Bool.false_eq_true, Bool.true_eq_false, List.length_map]; done))))
/-! ### two spans -/
theorem c99 (a x : Span) (k : List UInt8) (T1 T2 T3 : List Blk) (B1 : Blk) (rest : List Blk) (H : List (List Blk)) :
    CallEq X (T1 :: T2 :: T3 :: (.box [.d (.int .i64 a.t), .d (encB a.lo), .d (encB a.hi), .d (.bool a.op)] :: B1 :: .box [.d (encB k)] :: rest) :: H) 99 [pSpan x, .ptr 4 0 0, .ptr 4 2 0] (.d (.bool (!sIn x a.t k))) [] := by
  refine callEq_of_body X_ok rfl Try.func99 rfl ?_
  conv => whnf
  repeat' (first
    | (refine And.intro (fun h_ => ?_) (fun h_ => ?_) <;> (conv => whnf))
    | (refine ⟨_, _, c100 _ _ _ _, (by first | exact True.intro | exact And.intro rfl flat_nil), ?_⟩; conv => whnf)
    | (intro z_ hz_; conv => whnf)
    | (refine ⟨[], rfl, ?_, True.intro⟩; (conv => whnf); (first | done | (simp_all only [refP, Bool.not_true, Bool.not_false, Bool.true_and, Bool.false_and, Bool.and_true, Bool.and_false, Bool.true_or, Bool.false_or, Bool.or_true, Bool.or_false, Bool.not_not, Bool.not_eq_true', Bool.not_eq_false', if_true, if_false, Bool.false_eq_true, Bool.true_eq_false, List.length_map]; done))))
def sMeets (a b : Span) : Bool :=
  let k := if decide (cmpB a.lo b.lo < 0) then b.lo else a.lo
  !([a, b].any fun x => !sIn x a.t k)
theorem c97 (a b : Span) (k : List UInt8) (B1 : Blk) (rest : List Blk) (H : List (List Blk)) :
    CallEq X ((.box [.d (.int .i64 a.t), .d (encB a.lo), .d (encB a.hi), .d (.bool a.op)] :: B1 :: .box [.d (encB k)] :: rest) :: H) 97 [.d (.sl ([a, b].map cSpan)), .ptr 1 0 0, .ptr 1 2 0] (.d (.bool (!([a, b].any fun x => !sIn x a.t k)))) [] := by
  refine callEq_of_body X_ok rfl Try.func97 rfl ?_
  conv => whnf
  repeat' (first
    | (refine And.intro (fun h_ => ?_) (fun h_ => ?_) <;> (conv => whnf))
    | (refine ⟨_, _, c98 (fun x => !sIn x a.t k) 1 0 1 2 [a, b] _ (by simp) (fun x T T' => c99 a x k _ _ _ _ _ _), (by first | exact True.intro | exact And.intro rfl flat_nil), ?_⟩; conv => whnf)
    | (intro z_ hz_; conv => whnf)
    | (refine ⟨[], rfl, ?_, True.intro⟩; (conv => whnf); (first | done | (simp_all only [refP, Bool.not_true, Bool.not_false, Bool.true_and, Bool.false_and, Bool.and_true, Bool.and_false, Bool.true_or, Bool.false_or, Bool.or_true, Bool.or_false, Bool.not_not, Bool.not_eq_true', Bool.not_eq_false', if_true, if_false, Bool.false_eq_true, Bool.true_eq_false, List.length_map]; done))))
theorem c57 (a b : Span) (H : List (List Blk)) : CallEq X H 57 [pSpan a, pSpan b] (.d (.bool (sMeets a b))) [] := by
  unfold sMeets
  refine callEq_of_body X_ok rfl Try.func57 rfl ?_
  conv => whnf
  repeat' (first
    | (refine And.intro (fun h_ => ?_) (fun h_ => ?_) <;> (conv => whnf))
    | (refine ⟨_, _, c96 _ _ _, (by first | exact True.intro | exact And.intro rfl flat_nil), ?_⟩; conv => whnf)
    | (refine ⟨_, _, c97 a b _ _ _ _, (by first | exact True.intro | exact And.intro rfl flat_nil), ?_⟩; conv => whnf)
    | (intro z_ hz_; conv => whnf)
    | (refine ⟨[], rfl, ?_, True.intro⟩; (conv => whnf); (first | done | (simp_all only [refP, Bool.not_true, Bool.not_false, Bool.true_and, Bool.false_and, Bool.and_true, Bool.and_false, Bool.true_or, Bool.false_or, Bool.or_true, Bool.or_false, Bool.not_not, Bool.not_eq_true', Bool.not_eq_false', if_true, if_false, Bool.false_eq_true, Bool.true_eq_false, List.length_map]; done))))
def rMeets (a b : Span) : Bool := a.t == b.t && ((rSIn a b.t b.lo && rSIn b b.t b.lo) || (rSIn b a.t a.lo && rSIn a a.t a.lo))
theorem c59 (a b : Span) (H : List (List Blk)) : CallEq X H 59 [pSpan a, pSpan b] (.d (.bool (rMeets a b))) [] := by
  unfold rMeets
  refine callEq_of_body X_ok rfl Try.func59 rfl ?_
  conv => whnf
  repeat' (first
    | (refine And.intro (fun h_ => ?_) (fun h_ => ?_) <;> (conv => whnf))
    | (refine ⟨_, _, c101 _ _ _ _, (by first | exact True.intro | exact And.intro rfl flat_nil), ?_⟩; conv => whnf)
    | (intro z_ hz_; conv => whnf)
    | (refine ⟨[], rfl, ?_, True.intro⟩; (conv => whnf); (first | done | (simp_all only [refP, Bool.not_true, Bool.not_false, Bool.true_and, Bool.false_and, Bool.and_true, Bool.and_false, Bool.true_or, Bool.false_or, Bool.or_true, Bool.or_false, Bool.not_not, Bool.not_eq_true', Bool.not_eq_false', if_true, if_false, Bool.false_eq_true, Bool.true_eq_false, List.length_map]; done))))
end Go.Proofs.Ve
