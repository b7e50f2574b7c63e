/- Awake: calls whose answers the document fixes. -/
import Derived.Test.YtpmhiiembbfbeaaP3
set_option maxRecDepth 100000
set_option linter.all false
namespace Go.Proofs.Ve
open Go
def pointS (t : Int) (k : List UInt8) : Span := ⟨t, k, k ++ [0], false⟩
theorem c71 (t : Int) (k : List UInt8) (hk : k.length ≤ 1000000) (H : List (List Blk)) : CallEq X H 71 [.d (.int .i64 t), .d (encB k)] (pSpan (pointS t k)) [] := by
  have base : CallEq X H 71 [.d (.int .i64 t), .d (encB k)] (.agg [.d (.int .i64 t), .d (encB k), .row 0 0 (k.length + 1), .d (.bool false)]) [⟨5, 1, rowB (k ++ [0])⟩] := by
    refine callEq_of_body X_ok rfl Try.func71 rfl ?_
    conv => whnf
    refine ⟨_, _, c103 k (by omega) _, True.intro, ?_⟩
    conv => whnf
    refine ⟨_, _, c103r k (by omega) _, True.intro, ?_⟩
    conv => whnf
    refine ⟨fun y hy => by simp at hy; subst hy; rfl, ?_⟩
    conv => whnf
    refine ⟨by show k.length = (rowB k).length; simp [rowB], by (first | omega | (dsimp only; omega) | (simp; done) | (simp; omega)), ?_⟩
    conv => whnf
    refine ⟨[2], rfl, ?_, ?_⟩
    all_goals (repeat' (first | exact True.intro | exact rfl | refine And.intro ?_ ?_))
    show _ = rowB (k ++ [0])
    unfold rowB; rw [List.map_append]; rfl
  refine base.freeze 2 ?_
  change PV.agg [.d (.int .i64 t), .d (encB k), .d (.sl (List.take (k.length + 1) (rowB (k ++ [0])))), .d (.bool false)] = _
  rw [List.take_of_length_le (by simp [rowB])]; rfl
def oneL (o : Int) (s : ByteArray) (m : Int) : Lock := ⟨o, false, pointS 0 s.data.toList, m⟩
theorem c43 (o : Int) (s : ByteArray) (m : Int) (hs : s.size ≤ 1000000) (H : List (List Blk)) : CallEq X H 43 [.d (.int .i64 o), .d (.str s), .d (.int .i64 m)] (pLock (oneL o s m)) [] := by
  refine callEq_of_body X_ok rfl Try.func43 rfl ?_
  conv => whnf
  refine ⟨rfl, by omega, ?_⟩
  conv => whnf
  refine ⟨_, _, c71 0 s.data.toList (by rw [Array.length_toList]; exact hs) _, True.intro, ?_⟩
  conv => whnf
  refine ⟨[], rfl, ?_, ?_⟩
  all_goals (repeat' (first | exact True.intro | exact rfl | refine And.intro ?_ ?_))
def smallB (l : Locks) : Bool := Nat.blt l.held.length 100000 && (Nat.blt l.queue.length 100000 && (l.held.all (fun x => Nat.ble x.span.lo.length 1000000 && Nat.ble x.span.hi.length 1000000) && l.queue.all (fun x => Nat.ble x.span.lo.length 1000000 && Nat.ble x.span.hi.length 1000000)))
theorem small_of {l : Locks} (h : smallB l = true) : smallLs l := by
  unfold smallB at h
  simp only [Bool.and_eq_true, List.all_eq_true] at h
  obtain ⟨h1, h2, h3, h4⟩ := h
  exact ⟨by simpa [Nat.blt_eq] using h1, by simpa [Nat.blt_eq] using h2, fun x hx => ⟨Nat.le_of_ble_eq_true (h3 x hx).1, Nat.le_of_ble_eq_true (h3 x hx).2⟩, fun x hx => ⟨Nat.le_of_ble_eq_true (h4 x hx).1, Nat.le_of_ble_eq_true (h4 x hx).2⟩⟩
def smallXB (x : Lock) : Bool := Nat.ble x.span.lo.length 1000000 && Nat.ble x.span.hi.length 1000000
theorem smallX_of {x : Lock} (h : smallXB x = true) : smallX x := by
  unfold smallXB at h
  simp only [Bool.and_eq_true] at h
  exact ⟨Nat.le_of_ble_eq_true h.1, Nat.le_of_ble_eq_true h.2⟩
theorem e26 (l : Locks) (x : Lock) (hs : smallB l = true) (hx : smallXB x = true) (H : List (List Blk)) : CallEq X H 26 [pLocks l, pLock x] (pAskF (eAsk l x)) [] :=
  eask_eq l x ▸ c26 l x (small_of hs) (smallX_of hx) H
theorem e26r (l : Locks) (x : Lock) (hs : smallB l = true) (hx : smallXB x = true) (H : List (List Blk)) : CallEq X H 26 [pLocks l, pLock x] (pAsk (eAsk l x)) [rLocks (eAsk l x).1.held, rLocks (eAsk l x).1.queue] :=
  eask_eq l x ▸ c26r l x (small_of hs) (smallX_of hx) H
theorem e25 (l : Locks) (o : Int) (hs : smallB l = true) (H : List (List Blk)) : CallEq X H 25 [pLocks l, .d (.int .i64 o)] (pDropF (eDrop l o)) [] :=
  edrop_eq l o ▸ c25 l o (small_of hs) H
theorem e23 (l : Locks) (o : Int) (hs : smallB l = true) (H : List (List Blk)) : CallEq X H 23 [pLocks l, .d (.int .i64 o)] (.d (.bool (eWaits l o))) [] :=
  ewaits_eq l o ▸ c23 l o (small_of hs).1 (small_of hs).2.1 H
theorem e17 (l : Locks) (o : Int) (hs : smallB l = true) (H : List (List Blk)) : CallEq X H 17 [pLocks l, .d (.int .i64 o)] (.d (encI (eBlockers l o))) [] :=
  eblockers_eq l o ▸ c17 l o (small_of hs).1 (small_of hs).2.1 H
theorem e19 (l : Locks) (hs : smallB l = true) (H : List (List Blk)) : CallEq X H 19 [pLocks l] (.d (.bool (eCheck l))) [] :=
  echeck_eq l ▸ c19 l (small_of hs).1 (small_of hs).2.1 H
theorem e16 (a b : List Int) (h : Nat.blt a.length 1000000 = true) (H : List (List Blk)) : CallEq X H 16 [.d (encI a), .d (encI b)] (.d (.bool (numbers a b))) [] := c16 a b (by simpa [Nat.blt_eq] using h) H
def k0 : Locks := ⟨[], []⟩
def tA : ByteArray := ⟨#[97]⟩
def tB : ByteArray := ⟨#[98]⟩
def tC : ByteArray := ⟨#[99]⟩
def kA : Locks := (eAsk k0 (oneL 0 tA 5)).1
def kB : Locks := (eAsk kA (oneL 1 tA 3)).1
def kC : Locks := (eAsk kB (oneL 2 tB 5)).1
def zeroL : Lock := ⟨0, false, ⟨0, [], [], false⟩, 0⟩
def k41 : Locks := ⟨List.replicate 41 zeroL, []⟩
def kU : Locks := (eAsk k0 ⟨0, true, ⟨0, [], [], false⟩, 2⟩).1
theorem c13 (H : List (List Blk)) : CallEq X H 13 [] (.d (.bool true)) [] := by
  refine callEq_of_body X_ok rfl Try.func13 rfl ?_
  conv => whnf
  refine ⟨_, _, c43 0 tA 5 (by decide) _, True.intro, ?_⟩
  conv => whnf
  refine ⟨_, _, e26 k0 (oneL 0 tA 5) (by kernel_rfl) (by kernel_rfl) _, True.intro, ?_⟩
  conv => whnf
  refine ⟨_, _, c43 1 tA 3 (by decide) _, True.intro, ?_⟩
  conv => whnf
  refine ⟨_, _, e26 kA (oneL 1 tA 3) (by kernel_rfl) (by kernel_rfl) _, True.intro, ?_⟩
  conv => whnf
  refine ⟨_, _, c43 2 tB 5 (by decide) _, True.intro, ?_⟩
  conv => whnf
  refine ⟨_, _, e26 kB (oneL 2 tB 5) (by kernel_rfl) (by kernel_rfl) _, True.intro, ?_⟩
  conv => whnf
  refine ⟨_, _, c43 1 tC 3 (by decide) _, True.intro, ?_⟩
  conv => whnf
  refine ⟨_, _, e26 kC (oneL 1 tC 3) (by kernel_rfl) (by kernel_rfl) _, True.intro, ?_⟩
  conv => whnf
  refine ⟨_, _, e25 kC 0 (by kernel_rfl) _, True.intro, ?_⟩
  conv => whnf
  refine ⟨_, _, c43 0 tA 3 (by decide) _, True.intro, ?_⟩
  conv => whnf
  refine ⟨_, _, e26 kC (oneL 0 tA 3) (by kernel_rfl) (by kernel_rfl) _, True.intro, ?_⟩
  conv => whnf
  refine ⟨rfl, by decide, by (first | omega | (dsimp only; omega) | (simp; done) | (simp; omega)), by decide, ?_⟩
  conv => whnf
  refine ⟨_, _, c43 0 tA 3 (by decide) _, True.intro, ?_⟩
  conv => whnf
  have h41 := fun H => e26r k41 (oneL 0 tA 3) (by kernel_rfl) (by kernel_rfl) H
  refine ⟨_, _, h41 _, And.intro rfl (by unfold FlatN; decide), ?_⟩
  conv => whnf
  refine ⟨_, _, e26 k0 ⟨0, true, ⟨0, [], [], false⟩, 2⟩ (by kernel_rfl) (by kernel_rfl) _, True.intro, ?_⟩
  conv => whnf
  refine ⟨_, _, e26 kU ⟨0, true, ⟨0, [], [], false⟩, 3⟩ (by kernel_rfl) (by kernel_rfl) _, True.intro, ?_⟩
  conv => whnf
  refine And.intro (fun h => absurd (h.symm.trans (by kernel_rfl)) (show ¬ (true = false) by decide)) (fun _ => ?_)
  conv => whnf
  repeat (first
    | (refine And.intro (fun _ => ?_) (fun h => absurd (h.symm.trans (by kernel_rfl)) (show ¬ ((!true) = true) by decide)); conv => whnf)
    | (refine ⟨_, _, e23 kB 1 (by kernel_rfl) _, True.intro, ?_⟩; conv => whnf)
    | (refine ⟨_, _, e17 kB 1 (by kernel_rfl) _, True.intro, ?_⟩; conv => whnf)
    | (refine ⟨_, _, e16 (eBlockers kB 1) [0] (by kernel_rfl) _, True.intro, ?_⟩; conv => whnf)
    | (refine ⟨_, _, e16 (eDrop kC 0).2 [1] (by kernel_rfl) _, True.intro, ?_⟩; conv => whnf)
    | (refine ⟨_, _, e19 kC (by kernel_rfl) _, True.intro, ?_⟩; conv => whnf)
    | (refine ⟨_, _, e19 ⟨[], kC.queue⟩ (by kernel_rfl) _, True.intro, ?_⟩; conv => whnf))
  refine ⟨by decide, cLock ⟨0, true, ⟨0, [], [], false⟩, 4⟩, by kernel_rfl, rfl, ?_⟩
  conv => whnf
  repeat (first
    | (refine And.intro (fun _ => ?_) (fun h => absurd (h.symm.trans (by kernel_rfl)) (show ¬ ((!true) = true) by decide)); conv => whnf)
    | (refine ⟨_, _, e23 kB 1 (by kernel_rfl) _, True.intro, ?_⟩; conv => whnf)
    | (refine ⟨_, _, e17 kB 1 (by kernel_rfl) _, True.intro, ?_⟩; conv => whnf)
    | (refine ⟨_, _, e16 (eBlockers kB 1) [0] (by kernel_rfl) _, True.intro, ?_⟩; conv => whnf)
    | (refine ⟨_, _, e16 (eDrop kC 0).2 [1] (by kernel_rfl) _, True.intro, ?_⟩; conv => whnf)
    | (refine ⟨_, _, e19 kC (by kernel_rfl) _, True.intro, ?_⟩; conv => whnf)
    | (refine ⟨_, _, e19 ⟨[], kC.queue⟩ (by kernel_rfl) _, True.intro, ?_⟩; conv => whnf))
  exact ⟨[], rfl, rfl, True.intro⟩
end Go.Proofs.Ve
