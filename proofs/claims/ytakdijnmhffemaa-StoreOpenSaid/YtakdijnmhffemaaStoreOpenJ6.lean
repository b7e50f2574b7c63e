/- StoreOpen, part 6 of 6. WHAT IS PROVED: StoreOpen: whatever the input, the law returns true, and the input reads as it did. No condition. -/
import Derived.Test.YtakdijnmhffemaaRows
import Derived.WalkKit
import Derived.ProofKit
import Derived.OpenShut
import Derived.ShutString
import Derived.ChangeOld
import Derived.Below
import Derived.SizedLaws
import Derived.Carry
import Derived.Test.YtakdijnmhffemaaStoreOpenJ1
import Derived.Test.YtakdijnmhffemaaStoreOpenJ2
import Derived.Test.YtakdijnmhffemaaStoreOpenJ3
import Derived.Test.YtakdijnmhffemaaStoreOpenJ4
import Derived.Test.YtakdijnmhffemaaStoreOpenJ5
/- Stores: a span's keys, with their versions: an iterator. -/
set_option maxRecDepth 100000
set_option maxHeartbeats 8000000
set_option linter.all false
namespace Go.Proofs.Ve
open Go
theorem CallEq.g {C : Cx} {H : List (List Blk)} {f : Nat} {args : List PV} {r : PV} {N : List RowB} (h : CallEq C H f args r N) : CallEqG C H f [] args [] r N := by
  unfold CallEq at h
  unfold CallEqG
  refine ⟨rfl, fun m vs hinv hfree hlen hargs => ?_⟩
  refine (h m vs hinv (fun i => hfree i (Nat.zero_le _)) hlen hargs).mono ?_
  rintro e w' ⟨v, m', rfl, rfl, hg, hup, hfr, hi, hr⟩
  exact ⟨v, m', rfl, rfl, ⟨hg.os, hg.tape, hg.output, hg.size, fun k hk _ _ => hg.heap k hk, hup, hg.U, fun k ⟨j, b, u, h1, h2, h3, h4⟩ => .inl (hfr j b u k (by simpa using h1) h3 h4)⟩, fun i hi => absurd hi (Nat.not_lt_zero _), by simpa using hi, hr⟩
def hiOk (x : Span) (p : KV) : Bool := x.op || decide (cm p.1 x.hi < 0)
def spanP (x : Span) (p : KV) : Bool := geP x.lo p && hiOk x p
def sTab (s : Sto) (t : Int) : Node := if t = 0 then s.a else if t = 1 then s.b else if t = 2 then s.c else s.d
theorem sTab_ok {d : Nat} {s : Sto} (h : sOk d s) (t : Int) : nOk d (sTab s t) := by
  obtain ⟨ha, hb, hc, hd⟩ := h
  unfold sTab
  split
  · exact ha
  split
  · exact hb
  split
  · exact hc
  · exact hd
def inT (d : Nat) (n : Node) (x : Span) : List KV := (pairsN d n).filter (spanP x)
def stIn (d : Nat) (s : Sto) (x : Span) : List KV := if stCheck d s && (decide (x.t ≥ 0) && decide (x.t < 4)) then inT d (sTab s x.t) x else []
theorem in_next : ∀ {L : List KV}, SortedKV L → ∀ a : List UInt8, (L.find? (geP a) = none ∧ L.filter (geP a) = []) ∨ ∃ p, L.find? (geP a) = some p ∧ L.filter (geP a) = p :: L.filter (geP (p.1 ++ [0])) ∧ p ∈ L ∧ ∀ q ∈ L.filter (geP (p.1 ++ [0])), cm p.1 q.1 < 0
  | [], _, _ => .inl ⟨rfl, rfl⟩
  | q :: L, hs, a => by
    have hs' := (List.pairwise_cons.1 hs).2
    have hq := (List.pairwise_cons.1 hs).1
    cases hg : geP a q with
    | true =>
      have hall : ∀ r ∈ L, geP a r = true := fun r hr => by
        have h1 := hq r hr
        unfold geP at hg ⊢
        simp only [decide_eq_true_eq] at hg ⊢
        rcases Int.lt_or_le (cm r.1 a) 0 with h | h
        · have h2 := cm_lt_trans h1 h; omega
        · exact h
      have h0 : geP (q.1 ++ [0]) q = false := geP_lt ((cm_snoc0 q.1 q.1).2 (by rw [cm_self]; exact Int.le_refl _))
      have hall2 : ∀ r ∈ L, geP (q.1 ++ [0]) r = true := fun r hr => by
        have h1 := hq r hr
        unfold geP
        simp only [decide_eq_true_eq]
        rcases Int.lt_or_le (cm r.1 (q.1 ++ [0])) 0 with h | h
        · have h2 := (cm_snoc0 r.1 q.1).1 h
          have h3 := cm_lt_of_lt_le h1 h2
          rw [cm_self] at h3; omega
        · exact h
      refine .inr ⟨q, by simp [List.find?, hg], ?_, List.mem_cons_self, fun r hr => ?_⟩
      · rw [List.filter_cons, hg, if_pos rfl, List.filter_cons, h0]
        simp only [Bool.false_eq_true, if_false]
        rw [List.filter_eq_self.2 hall, List.filter_eq_self.2 hall2]
      · rw [List.filter_cons, h0] at hr
        simp only [Bool.false_eq_true, if_false] at hr
        exact hq r (List.mem_filter.1 hr).1
    | false =>
      have e1 : (q :: L).find? (geP a) = L.find? (geP a) := by simp [List.find?, hg]
      have e2 : (q :: L).filter (geP a) = L.filter (geP a) := by rw [List.filter_cons, hg]; rfl
      rw [e1, e2]
      rcases in_next hs' a with h | ⟨p, h1, h2, h3, h4⟩
      · exact .inl h
      · have h0 : geP (p.1 ++ [0]) q = false := geP_lt ((cm_snoc0 q.1 p.1).2 (Int.le_of_lt (hq p h3)))
        have e3 : (q :: L).filter (geP (p.1 ++ [0])) = L.filter (geP (p.1 ++ [0])) := by rw [List.filter_cons, h0]; rfl
        exact .inr ⟨p, h1, by rw [e3]; exact h2, List.mem_cons_of_mem _ h3, fun r hr => h4 r (by rw [e3] at hr; exact hr)⟩
theorem in_first (L : List KV) (x : Span) : L.filter (spanP x) = (L.filter (geP x.lo)).filter (hiOk x) := by
  rw [List.filter_filter]
  exact congrArg (fun f => L.filter f) (funext fun p => by unfold spanP; exact Bool.and_comm _ _)
def inG (s : Sto) (x : Span) : List RowB := [⟨0, 0, [[encKs s.a.keys, encCs s.a.chains, encNs s.a.kids, encKs s.b.keys, encCs s.b.chains, encNs s.b.kids, encKs s.c.keys, encCs s.c.chains, encNs s.c.kids, encKs s.d.keys, encCs s.d.chains, encNs s.d.kids]]⟩, ⟨0, 0, [[.int .i64 x.t, encB x.lo, encB x.hi, .bool x.op]]⟩]
def inY (l : List KV) : List (List YV) := l.map fun p => [.one (encB p.1), .one (encVs p.2)]
theorem s_in (s : Sto) (x : Span) (H : List (List Blk)) : CallEq X H 27 [pSto s, pSpan x] (.func (.func 49) [] [.ptr 0 0 0, .ptr 0 1 0]) (inG s x) := by
  refine callEq_of_body X_ok rfl Try.func27 rfl ?_
  conv => whnf
  refine ⟨[0, 1], rfl, ?_, ?_⟩
  all_goals (repeat' (first | exact True.intro | exact rfl | refine And.intro ?_ ?_))
noncomputable def moIn : List (Nat × Tr) := [(1, .cut ((.alt 0 (.alt 2 (.alt 5 (.alt 1 (.alt 3 (.alt 4 (.alt 6 (.alt 7 (.alt 8 (.alt 9 .fin .none) .none) .none) (.alt 7 (.alt 6 (.alt 8 (.alt 9 .fin .none) .none) (.alt 8 (.alt 6 (.alt 9 .fin .none) .none) .none)) .none)) (.alt 6 (.alt 4 (.alt 7 (.alt 8 (.alt 9 .fin .none) .none) .none) (.alt 7 (.alt 4 (.alt 8 (.alt 9 .fin .none) .none) .none) .none)) (.alt 7 (.alt 4 (.alt 6 (.alt 8 (.alt 9 .fin .none) .none) (.alt 8 (.alt 6 (.alt 9 .fin .none) .none) .none)) (.alt 6 (.alt 4 (.alt 8 (.alt 9 .fin .none) .none) .none) .none)) .none))) (.alt 6 (.alt 3 (.alt 4 (.alt 7 (.alt 8 (.alt 9 .fin .none) .none) .none) (.alt 7 (.alt 4 (.alt 8 (.alt 9 .fin .none) .none) .none) .none)) (.alt 7 (.alt 3 (.alt 4 (.alt 8 (.alt 9 .fin .none) .none) .none) .none) .none)) (.alt 7 (.alt 3 (.alt 4 (.alt 6 (.alt 8 (.alt 9 .fin .none) .none) (.alt 8 (.alt 6 (.alt 9 .fin .none) .none) .none)) (.alt 6 (.alt 4 (.alt 8 (.alt 9 .fin .none) .none) .none) .none)) (.alt 6 (.alt 3 (.alt 4 (.alt 8 (.alt 9 .fin .none) .none) .none) .none) .none)) .none))) (.alt 6 (.alt 1 (.alt 3 (.alt 4 (.alt 7 (.alt 8 (.alt 9 .fin .none) .none) .none) (.alt 7 (.alt 4 (.alt 8 (.alt 9 .fin .none) .none) .none) .none)) (.alt 7 (.alt 3 (.alt 4 (.alt 8 (.alt 9 .fin .none) .none) .none) .none) .none)) (.alt 7 (.alt 1 (.alt 3 (.alt 4 (.alt 8 (.alt 9 .fin .none) .none) .none) .none) .none) .none)) (.alt 7 (.alt 1 (.alt 3 (.alt 4 (.alt 6 (.alt 8 (.alt 9 .fin .none) .none) (.alt 8 (.alt 6 (.alt 9 .fin .none) .none) .none)) (.alt 6 (.alt 4 (.alt 8 (.alt 9 .fin .none) .none) .none) .none)) (.alt 6 (.alt 3 (.alt 4 (.alt 8 (.alt 9 .fin .none) .none) .none) .none) .none)) (.alt 6 (.alt 1 (.alt 3 (.alt 4 (.alt 8 (.alt 9 .fin .none) .none) .none) .none) .none) .none)) .none))) .none) .none) .none)))]
theorem i_in0 (d : Nat) (s : Sto) (x : Span) (hd : d ≤ 16) (hs : sOk d s) (hc : stCheck d s = true) (ht : x.t = 0) (hlo : x.lo.length ≤ 1000000) (hhi : x.hi.length ≤ 1000000) : IterEq X 49 (inG s x) [.ptr 0 0 0, .ptr 0 1 0] (inY (inT d s.a x)) := by
  have hn : nOk d s.a := hs.1
  have hchk := fun H => c_check d s hd hs H
  rw [hc] at hchk
  have hsort := pairs_sorted d s.a
  have hmem := pairs_mem (d := d) hn
  obtain ⟨t, lo, hi, op⟩ := x
  dsimp only at ht hlo hhi
  subst ht
  unfold inT
  generalize hL : pairsN d s.a = L at hsort hmem
  have hnext : ∀ a, nextA d s.a a = (L.find? (geP a)).map (·.1) := fun a => by rw [← hL]; exact nextA_eq hn a
  have hfind : ∀ p ∈ L, findA d s.a p.1 = some p.2 := fun p hp => by rw [findA_eq hn, hL, find_self hsort hp]; rfl
  rw [in_first]
  dsimp only
  have hP0 : ∀ p, hiOk (⟨0, lo, hi, op⟩ : Span) p = (op || decide (cm p.1 hi < 0)) := fun _ => rfl
  generalize hiOk (⟨0, lo, hi, op⟩ : Span) = hp at hP0 ⊢
  generalize hI0 : (L.filter (geP lo)).filter hp = IL
  have hlenIL : (inY IL).length = IL.length := List.length_map ..
  change IterEq X 49 [⟨0, 0, [[encKs s.a.keys, encCs s.a.chains, encNs s.a.kids, encKs s.b.keys, encCs s.b.chains, encNs s.b.kids, encKs s.c.keys, encCs s.c.chains, encNs s.c.kids, encKs s.d.keys, encCs s.d.chains, encNs s.d.kids]]⟩, ⟨0, 0, [[.int .i64 0, encB lo, encB hi, .bool op]]⟩] [.ptr 0 0 0, .ptr 0 1 0] (inY IL)
  refine iterEq_of_bodyM X_ok (mo := moIn) (by kernel_rfl) Try.func49 rfl rfl ?_
  intro Y hP hxs
  conv => whnf
  refine ⟨_, _, hchk _, True.intro, ?_⟩
  conv => whnf
  refine And.intro (fun _ => ?_) (fun q => absurd q (by decide))
  conv => whnf
  refine ⟨_, _, c_fits 0 _, True.intro, ?_⟩
  conv => whnf
  refine And.intro (fun q => absurd q (by decide)) (fun _ => ?_)
  conv => whnf
  refine cutV_of [.yld Y, .ptr 0 0 0, .ptr 0 1 0, .any, .ptr 0 3 0, .d (encB lo), .any, .any, .any, .any, .any, .any, .any, .any, .any, .any, .any, .any, .any, .any, .any, .any, .any, .any, .any, .any, .any, .any, .any, .any, .any, .any, .any, .any, .any, .any, .any, .any, .any, .any, .any, .any, .any, .any, .any, .any, .any, .any, .any, .any, .any, .any, .any, .any, .any, .any, .any, .any, .any, .any, .any] [.box s.cells, .box [.d (.int .i64 0), .d (encB lo), .d (encB hi), .d (.bool op)], .gen Y (some 0), bNode s.a] ?_ ?_
  · conv => whnf
    repeat' (first
      | (refine ⟨[0, 1, 2, 3], And.intro rfl (And.intro ?_ ?_)⟩ <;> (repeat' (first | exact True.intro | exact rfl | refine And.intro ?_ ?_)); done)
      | (refine ⟨by decide, by decide, ?_⟩; conv => whnf)
      | (refine ⟨0, rfl, ?_⟩; conv => whnf)
      | (refine And.intro ?_ ?_ <;> (conv => whnf)))
  · conv => whnf
    refine loopV_of (fun j : Nat × Option (List UInt8) => match j.2 with
        | none => ⟨[.yld Y, .ptr 0 0 0, .ptr 0 1 0, .any, .ptr 0 3 0, .d (encB lo), .any, .any, .any, .any, .any, .any, .any, .any, .any, .any, .any, .any, .any, .any, .any, .any, .any, .any, .any, .any, .any, .any, .any, .any, .any, .any, .any, .any, .any, .any, .any, .any, .any, .any, .any, .any, .any, .any, .any, .any, .any, .any, .any, .any, .any, .any, .any, .any, .any, .any, .any, .any, .any, .any, .any], [.box s.cells, .box [.d (.int .i64 0), .d (encB lo), .d (encB hi), .d (.bool op)], .gen Y (some j.1), bNode s.a]⟩
        | some a => ⟨[.yld Y, .ptr 0 0 0, .ptr 0 1 0, .any, .ptr 0 3 0, .row 0 4 a.length, .any, .any, .any, .any, .any, .any, .any, .any, .any, .any, .any, .any, .any, .any, .any, .any, .any, .any, .any, .any, .any, .any, .any, .any, .any, .any, .any, .any, .any, .any, .any, .any, .any, .any, .any, .any, .any, .any, .any, .any, .any, .any, .any, .any, .any, .any, .any, .any, .any, .any, .any, .any, .any, .any, .any], [.box s.cells, .box [.d (.int .i64 0), .d (encB lo), .d (encB hi), .d (.bool op)], .gen Y (some j.1), bNode s.a, .row 5 1 (rowB a)]⟩)
      (fun j => j.1 ≤ IL.length ∧ (j.2.getD lo).length ≤ 2000000 ∧ IL.drop j.1 = (L.filter (geP (j.2.getD lo))).filter hp) (fun j => (L.filter (geP (j.2.getD lo))).length) (0, none) [0, 1, 2, 3] ⟨Nat.zero_le _, by show lo.length ≤ 2000000; omega, hI0.symm⟩ ?_ ?_
    · refine And.intro rfl (And.intro ?_ ?_)
      all_goals (repeat' (first | exact True.intro | exact rfl | refine And.intro ?_ ?_))
    · rintro ⟨k, o⟩ ⟨hk, hol, hI⟩
      dsimp only at hk hol hI
      have hstep := in_next hsort (o.getD lo)
      have hend : ∀ p, (L.filter (geP (o.getD lo))) = p :: L.filter (geP (p.1 ++ [0])) → (∀ q ∈ L.filter (geP (p.1 ++ [0])), cm p.1 q.1 < 0) → hp p = false → IL.drop k = [] := fun p e2 e4 hf => by
        rw [hI, e2, List.filter_cons, hf]
        simp only [Bool.false_eq_true, if_false]
        refine List.filter_eq_nil_iff.2 fun q hq => ?_
        rw [hP0] at hf ⊢
        have h1 := e4 q hq
        cases op with
        | true => simp at hf
        | false =>
          simp only [Bool.false_or, decide_eq_false_iff_not, decide_eq_true_eq] at hf ⊢
          exact fun h => hf (cm_lt_trans h1 h)
      have hgo : ∀ p, (L.filter (geP (o.getD lo))) = p :: L.filter (geP (p.1 ++ [0])) → hp p = true → IL.drop k = p :: (L.filter (geP (p.1 ++ [0]))).filter hp := fun p e2 hf => by
        rw [hI, e2, List.filter_cons, hf, if_pos rfl]
      have hlen : IL.drop k = [] → k = (inY IL).length := fun h => by
        have := List.drop_eq_nil_iff.1 h
        rw [hlenIL]; omega
      have hat : ∀ {p R}, IL.drop k = p :: R → IL[k]? = some p ∧ IL.drop (k + 1) = R ∧ k < IL.length := fun {p R} h => by
        have hk' : k < IL.length := by
          rcases Nat.lt_or_ge k IL.length with h' | h'
          · exact h'
          · rw [List.drop_eq_nil_iff.2 h'] at h; cases h
        rw [List.drop_eq_getElem_cons hk'] at h
        simp only [List.cons.injEq] at h
        exact ⟨by rw [List.getElem?_eq_getElem hk', h.1], h.2, hk'⟩
      have hkey : ∀ p ∈ L, p.1.length ≤ 1000000 := fun p hp => (hmem p hp).1
      cases o with
      | none =>
        dsimp only [Option.getD] at hol hI hstep hend hgo
        have hnx := fun H => (d_next d s.a lo hd hn H).g
        rw [hnext] at hnx
        rcases hstep with ⟨e1, e2⟩ | ⟨p, e1, e2, e3, e4⟩
        · rw [e1] at hnx
          conv => whnf
          refine ⟨_, _, _, hnx _, ?_⟩
          conv => whnf
          refine And.intro (fun q => absurd q (by decide)) (fun _ => ?_)
          conv => whnf
          exact ⟨rfl, by rw [hxs]; exact hlen (by rw [hI, e2]; rfl)⟩
        · rw [e1] at hnx
          have hpl := hkey p e3
          have hfd := fun H => d_find d s.a p.1 hd hn H
          rw [hfind p e3] at hfd
          conv => whnf
          refine ⟨_, _, _, hnx _, ?_⟩
          conv => whnf
          refine And.intro (fun _ => ?_) (fun q => absurd (show false = true from q) (by decide))
          conv => whnf
          refine And.intro (fun q => ?_) (fun q => ?_) <;> (conv => whnf)
          · obtain rfl : op = false := by simpa using q
            refine ⟨_, _, d_comp p.1 hi _, True.intro, ?_⟩
            conv => whnf
            refine And.intro (fun q2 => ?_) (fun q2 => ?_) <;> (conv => whnf)
            · refine ⟨rfl, ?_⟩
              rw [hxs]
              refine hlen (hend p e2 e4 ?_)
              rw [cmpB_eq] at q2
              rw [hP0]
              simp only [decide_eq_true_eq] at q2
              simp only [Bool.false_or, decide_eq_false_iff_not]
              omega
            · obtain ⟨a1, a2, a3⟩ := hat (hgo p e2 (by
                rw [cmpB_eq] at q2
                rw [hP0]
                simp only [decide_eq_false_iff_not] at q2
                simp only [Bool.false_or, decide_eq_true_eq]
                omega))
              refine ⟨_, _, hfd _, True.intro, ?_⟩
              conv => whnf
              refine ⟨rfl, hP, by rw [hxs]; show (inY IL)[k]? = _; unfold inY; rw [List.getElem?_map, a1]; rfl, ?_, ?_⟩
              rotate_left
              · conv => whnf
                exact ⟨rfl, True.intro⟩
              · conv => whnf
                refine ⟨_, _, c103r p.1 (by omega) _, True.intro, ?_⟩
                conv => whnf
                refine ⟨fun y hy => by simp at hy; subst hy; rfl, ?_⟩
                conv => whnf
                refine ⟨by unfold rowB; simp, by (first | omega | (dsimp only; omega) | (simp; done) | (simp; omega)), ?_⟩
                conv => whnf
                refine ⟨(k + 1, some (p.1 ++ [0])), [0, 1, 2, 3, 5], ⟨a3, by show (p.1 ++ [0]).length ≤ 2000000; rw [List.length_append]; show p.1.length + 1 ≤ _; omega, a2⟩, by show (L.filter (geP (p.1 ++ [0]))).length < (L.filter (geP lo)).length; rw [e2]; exact Nat.lt_succ_self _, And.intro rfl (And.intro ?_ ?_)⟩
                all_goals (repeat' (first | exact True.intro | exact rfl | refine And.intro ?_ ?_))
                all_goals (first | (exact congrArg (PV.row 0 5) (show p.1.length + 1 = (p.1 ++ [0]).length by simp)) | (exact congrArg (PV.row 0 6) (show p.1.length + 1 = (p.1 ++ [0]).length by simp)) | (show rowB p.1 ++ _ = rowB (p.1 ++ [0]); unfold rowB; rw [List.map_append]; rfl))
          · obtain rfl : op = true := by simpa using q
            obtain ⟨a1, a2, a3⟩ := hat (hgo p e2 (by rw [hP0]; rfl))
            refine ⟨_, _, hfd _, True.intro, ?_⟩
            conv => whnf
            refine ⟨rfl, hP, by rw [hxs]; show (inY IL)[k]? = _; unfold inY; rw [List.getElem?_map, a1]; rfl, ?_, ?_⟩
            rotate_left
            · conv => whnf
              exact ⟨rfl, True.intro⟩
            · conv => whnf
              refine ⟨_, _, c103r p.1 (by omega) _, True.intro, ?_⟩
              conv => whnf
              refine ⟨fun y hy => by simp at hy; subst hy; rfl, ?_⟩
              conv => whnf
              refine ⟨by unfold rowB; simp, by (first | omega | (dsimp only; omega) | (simp; done) | (simp; omega)), ?_⟩
              conv => whnf
              refine ⟨(k + 1, some (p.1 ++ [0])), [0, 1, 2, 3, 5], ⟨a3, by show (p.1 ++ [0]).length ≤ 2000000; rw [List.length_append]; show p.1.length + 1 ≤ _; omega, a2⟩, by show (L.filter (geP (p.1 ++ [0]))).length < (L.filter (geP lo)).length; rw [e2]; exact Nat.lt_succ_self _, And.intro rfl (And.intro ?_ ?_)⟩
              all_goals (repeat' (first | exact True.intro | exact rfl | refine And.intro ?_ ?_))
              all_goals (first | (exact congrArg (PV.row 0 5) (show p.1.length + 1 = (p.1 ++ [0]).length by simp)) | (exact congrArg (PV.row 0 6) (show p.1.length + 1 = (p.1 ++ [0]).length by simp)) | (show rowB p.1 ++ _ = rowB (p.1 ++ [0]); unfold rowB; rw [List.map_append]; rfl))
      | some a =>
        dsimp only [Option.getD] at hol hI hstep hend hgo
        have hnx := fun H => d_nextG d s.a a hd hn H
        rw [hnext] at hnx
        rcases hstep with ⟨e1, e2⟩ | ⟨p, e1, e2, e3, e4⟩
        · rw [e1] at hnx
          conv => whnf
          refine ⟨_, _, _, hnx _, ?_⟩
          conv => whnf
          refine And.intro (fun q => absurd q (by decide)) (fun _ => ?_)
          conv => whnf
          exact ⟨rfl, by rw [hxs]; exact hlen (by rw [hI, e2]; rfl)⟩
        · rw [e1] at hnx
          have hpl := hkey p e3
          have hfd := fun H => d_find d s.a p.1 hd hn H
          rw [hfind p e3] at hfd
          conv => whnf
          refine ⟨_, _, _, hnx _, ?_⟩
          conv => whnf
          refine And.intro (fun _ => ?_) (fun q => absurd (show false = true from q) (by decide))
          conv => whnf
          refine And.intro (fun q => ?_) (fun q => ?_) <;> (conv => whnf)
          · obtain rfl : op = false := by simpa using q
            refine ⟨_, _, d_comp p.1 hi _, True.intro, ?_⟩
            conv => whnf
            refine And.intro (fun q2 => ?_) (fun q2 => ?_) <;> (conv => whnf)
            · refine ⟨rfl, ?_⟩
              rw [hxs]
              refine hlen (hend p e2 e4 ?_)
              rw [cmpB_eq] at q2
              rw [hP0]
              simp only [decide_eq_true_eq] at q2
              simp only [Bool.false_or, decide_eq_false_iff_not]
              omega
            · obtain ⟨a1, a2, a3⟩ := hat (hgo p e2 (by
                rw [cmpB_eq] at q2
                rw [hP0]
                simp only [decide_eq_false_iff_not] at q2
                simp only [Bool.false_or, decide_eq_true_eq]
                omega))
              refine ⟨_, _, hfd _, True.intro, ?_⟩
              conv => whnf
              refine ⟨rfl, hP, by rw [hxs]; show (inY IL)[k]? = _; unfold inY; rw [List.getElem?_map, a1]; rfl, ?_, ?_⟩
              rotate_left
              · conv => whnf
                exact ⟨rfl, True.intro⟩
              · conv => whnf
                refine ⟨_, _, c103r p.1 (by omega) _, True.intro, ?_⟩
                conv => whnf
                refine ⟨fun y hy => by simp at hy; subst hy; rfl, ?_⟩
                conv => whnf
                refine ⟨by unfold rowB; simp, by (first | omega | (dsimp only; omega) | (simp; done) | (simp; omega)), ?_⟩
                conv => whnf
                refine ⟨(k + 1, some (p.1 ++ [0])), [0, 1, 2, 3, 6], ⟨a3, by show (p.1 ++ [0]).length ≤ 2000000; rw [List.length_append]; show p.1.length + 1 ≤ _; omega, a2⟩, by show (L.filter (geP (p.1 ++ [0]))).length < (L.filter (geP a)).length; rw [e2]; exact Nat.lt_succ_self _, And.intro rfl (And.intro ?_ ?_)⟩
                all_goals (repeat' (first | exact True.intro | exact rfl | refine And.intro ?_ ?_))
                all_goals (first | (exact congrArg (PV.row 0 5) (show p.1.length + 1 = (p.1 ++ [0]).length by simp)) | (exact congrArg (PV.row 0 6) (show p.1.length + 1 = (p.1 ++ [0]).length by simp)) | (show rowB p.1 ++ _ = rowB (p.1 ++ [0]); unfold rowB; rw [List.map_append]; rfl))
          · obtain rfl : op = true := by simpa using q
            obtain ⟨a1, a2, a3⟩ := hat (hgo p e2 (by rw [hP0]; rfl))
            refine ⟨_, _, hfd _, True.intro, ?_⟩
            conv => whnf
            refine ⟨rfl, hP, by rw [hxs]; show (inY IL)[k]? = _; unfold inY; rw [List.getElem?_map, a1]; rfl, ?_, ?_⟩
            rotate_left
            · conv => whnf
              exact ⟨rfl, True.intro⟩
            · conv => whnf
              refine ⟨_, _, c103r p.1 (by omega) _, True.intro, ?_⟩
              conv => whnf
              refine ⟨fun y hy => by simp at hy; subst hy; rfl, ?_⟩
              conv => whnf
              refine ⟨by unfold rowB; simp, by (first | omega | (dsimp only; omega) | (simp; done) | (simp; omega)), ?_⟩
              conv => whnf
              refine ⟨(k + 1, some (p.1 ++ [0])), [0, 1, 2, 3, 6], ⟨a3, by show (p.1 ++ [0]).length ≤ 2000000; rw [List.length_append]; show p.1.length + 1 ≤ _; omega, a2⟩, by show (L.filter (geP (p.1 ++ [0]))).length < (L.filter (geP a)).length; rw [e2]; exact Nat.lt_succ_self _, And.intro rfl (And.intro ?_ ?_)⟩
              all_goals (repeat' (first | exact True.intro | exact rfl | refine And.intro ?_ ?_))
              all_goals (first | (exact congrArg (PV.row 0 5) (show p.1.length + 1 = (p.1 ++ [0]).length by simp)) | (exact congrArg (PV.row 0 6) (show p.1.length + 1 = (p.1 ++ [0]).length by simp)) | (show rowB p.1 ++ _ = rowB (p.1 ++ [0]); unfold rowB; rw [List.map_append]; rfl))
theorem i_in1 (d : Nat) (s : Sto) (x : Span) (hd : d ≤ 16) (hs : sOk d s) (hc : stCheck d s = true) (ht : x.t = 1) (hlo : x.lo.length ≤ 1000000) (hhi : x.hi.length ≤ 1000000) : IterEq X 49 (inG s x) [.ptr 0 0 0, .ptr 0 1 0] (inY (inT d s.b x)) := by
  have hn : nOk d s.b := hs.2.1
  have hchk := fun H => c_check d s hd hs H
  rw [hc] at hchk
  have hsort := pairs_sorted d s.b
  have hmem := pairs_mem (d := d) hn
  obtain ⟨t, lo, hi, op⟩ := x
  dsimp only at ht hlo hhi
  subst ht
  unfold inT
  generalize hL : pairsN d s.b = L at hsort hmem
  have hnext : ∀ a, nextA d s.b a = (L.find? (geP a)).map (·.1) := fun a => by rw [← hL]; exact nextA_eq hn a
  have hfind : ∀ p ∈ L, findA d s.b p.1 = some p.2 := fun p hp => by rw [findA_eq hn, hL, find_self hsort hp]; rfl
  rw [in_first]
  dsimp only
  have hP0 : ∀ p, hiOk (⟨1, lo, hi, op⟩ : Span) p = (op || decide (cm p.1 hi < 0)) := fun _ => rfl
  generalize hiOk (⟨1, lo, hi, op⟩ : Span) = hp at hP0 ⊢
  generalize hI0 : (L.filter (geP lo)).filter hp = IL
  have hlenIL : (inY IL).length = IL.length := List.length_map ..
  change IterEq X 49 [⟨0, 0, [[encKs s.a.keys, encCs s.a.chains, encNs s.a.kids, encKs s.b.keys, encCs s.b.chains, encNs s.b.kids, encKs s.c.keys, encCs s.c.chains, encNs s.c.kids, encKs s.d.keys, encCs s.d.chains, encNs s.d.kids]]⟩, ⟨0, 0, [[.int .i64 1, encB lo, encB hi, .bool op]]⟩] [.ptr 0 0 0, .ptr 0 1 0] (inY IL)
  refine iterEq_of_bodyM X_ok (mo := moIn) (by kernel_rfl) Try.func49 rfl rfl ?_
  intro Y hP hxs
  conv => whnf
  refine ⟨_, _, hchk _, True.intro, ?_⟩
  conv => whnf
  refine And.intro (fun _ => ?_) (fun q => absurd q (by decide))
  conv => whnf
  refine ⟨_, _, c_fits 1 _, True.intro, ?_⟩
  conv => whnf
  refine And.intro (fun q => absurd q (by decide)) (fun _ => ?_)
  conv => whnf
  refine cutV_of [.yld Y, .ptr 0 0 0, .ptr 0 1 0, .any, .ptr 0 3 0, .d (encB lo), .any, .any, .any, .any, .any, .any, .any, .any, .any, .any, .any, .any, .any, .any, .any, .any, .any, .any, .any, .any, .any, .any, .any, .any, .any, .any, .any, .any, .any, .any, .any, .any, .any, .any, .any, .any, .any, .any, .any, .any, .any, .any, .any, .any, .any, .any, .any, .any, .any, .any, .any, .any, .any, .any, .any] [.box s.cells, .box [.d (.int .i64 1), .d (encB lo), .d (encB hi), .d (.bool op)], .gen Y (some 0), bNode s.b] ?_ ?_
  · conv => whnf
    repeat' (first
      | (refine ⟨[0, 1, 2, 3], And.intro rfl (And.intro ?_ ?_)⟩ <;> (repeat' (first | exact True.intro | exact rfl | refine And.intro ?_ ?_)); done)
      | (refine ⟨by decide, by decide, ?_⟩; conv => whnf)
      | (refine ⟨1, rfl, ?_⟩; conv => whnf)
      | (refine And.intro ?_ ?_ <;> (conv => whnf)))
  · conv => whnf
    refine loopV_of (fun j : Nat × Option (List UInt8) => match j.2 with
        | none => ⟨[.yld Y, .ptr 0 0 0, .ptr 0 1 0, .any, .ptr 0 3 0, .d (encB lo), .any, .any, .any, .any, .any, .any, .any, .any, .any, .any, .any, .any, .any, .any, .any, .any, .any, .any, .any, .any, .any, .any, .any, .any, .any, .any, .any, .any, .any, .any, .any, .any, .any, .any, .any, .any, .any, .any, .any, .any, .any, .any, .any, .any, .any, .any, .any, .any, .any, .any, .any, .any, .any, .any, .any], [.box s.cells, .box [.d (.int .i64 1), .d (encB lo), .d (encB hi), .d (.bool op)], .gen Y (some j.1), bNode s.b]⟩
        | some a => ⟨[.yld Y, .ptr 0 0 0, .ptr 0 1 0, .any, .ptr 0 3 0, .row 0 4 a.length, .any, .any, .any, .any, .any, .any, .any, .any, .any, .any, .any, .any, .any, .any, .any, .any, .any, .any, .any, .any, .any, .any, .any, .any, .any, .any, .any, .any, .any, .any, .any, .any, .any, .any, .any, .any, .any, .any, .any, .any, .any, .any, .any, .any, .any, .any, .any, .any, .any, .any, .any, .any, .any, .any, .any], [.box s.cells, .box [.d (.int .i64 1), .d (encB lo), .d (encB hi), .d (.bool op)], .gen Y (some j.1), bNode s.b, .row 5 1 (rowB a)]⟩)
      (fun j => j.1 ≤ IL.length ∧ (j.2.getD lo).length ≤ 2000000 ∧ IL.drop j.1 = (L.filter (geP (j.2.getD lo))).filter hp) (fun j => (L.filter (geP (j.2.getD lo))).length) (0, none) [0, 1, 2, 3] ⟨Nat.zero_le _, by show lo.length ≤ 2000000; omega, hI0.symm⟩ ?_ ?_
    · refine And.intro rfl (And.intro ?_ ?_)
      all_goals (repeat' (first | exact True.intro | exact rfl | refine And.intro ?_ ?_))
    · rintro ⟨k, o⟩ ⟨hk, hol, hI⟩
      dsimp only at hk hol hI
      have hstep := in_next hsort (o.getD lo)
      have hend : ∀ p, (L.filter (geP (o.getD lo))) = p :: L.filter (geP (p.1 ++ [0])) → (∀ q ∈ L.filter (geP (p.1 ++ [0])), cm p.1 q.1 < 0) → hp p = false → IL.drop k = [] := fun p e2 e4 hf => by
        rw [hI, e2, List.filter_cons, hf]
        simp only [Bool.false_eq_true, if_false]
        refine List.filter_eq_nil_iff.2 fun q hq => ?_
        rw [hP0] at hf ⊢
        have h1 := e4 q hq
        cases op with
        | true => simp at hf
        | false =>
          simp only [Bool.false_or, decide_eq_false_iff_not, decide_eq_true_eq] at hf ⊢
          exact fun h => hf (cm_lt_trans h1 h)
      have hgo : ∀ p, (L.filter (geP (o.getD lo))) = p :: L.filter (geP (p.1 ++ [0])) → hp p = true → IL.drop k = p :: (L.filter (geP (p.1 ++ [0]))).filter hp := fun p e2 hf => by
        rw [hI, e2, List.filter_cons, hf, if_pos rfl]
      have hlen : IL.drop k = [] → k = (inY IL).length := fun h => by
        have := List.drop_eq_nil_iff.1 h
        rw [hlenIL]; omega
      have hat : ∀ {p R}, IL.drop k = p :: R → IL[k]? = some p ∧ IL.drop (k + 1) = R ∧ k < IL.length := fun {p R} h => by
        have hk' : k < IL.length := by
          rcases Nat.lt_or_ge k IL.length with h' | h'
          · exact h'
          · rw [List.drop_eq_nil_iff.2 h'] at h; cases h
        rw [List.drop_eq_getElem_cons hk'] at h
        simp only [List.cons.injEq] at h
        exact ⟨by rw [List.getElem?_eq_getElem hk', h.1], h.2, hk'⟩
      have hkey : ∀ p ∈ L, p.1.length ≤ 1000000 := fun p hp => (hmem p hp).1
      cases o with
      | none =>
        dsimp only [Option.getD] at hol hI hstep hend hgo
        have hnx := fun H => (d_next d s.b lo hd hn H).g
        rw [hnext] at hnx
        rcases hstep with ⟨e1, e2⟩ | ⟨p, e1, e2, e3, e4⟩
        · rw [e1] at hnx
          conv => whnf
          refine ⟨_, _, _, hnx _, ?_⟩
          conv => whnf
          refine And.intro (fun q => absurd q (by decide)) (fun _ => ?_)
          conv => whnf
          exact ⟨rfl, by rw [hxs]; exact hlen (by rw [hI, e2]; rfl)⟩
        · rw [e1] at hnx
          have hpl := hkey p e3
          have hfd := fun H => d_find d s.b p.1 hd hn H
          rw [hfind p e3] at hfd
          conv => whnf
          refine ⟨_, _, _, hnx _, ?_⟩
          conv => whnf
          refine And.intro (fun _ => ?_) (fun q => absurd (show false = true from q) (by decide))
          conv => whnf
          refine And.intro (fun q => ?_) (fun q => ?_) <;> (conv => whnf)
          · obtain rfl : op = false := by simpa using q
            refine ⟨_, _, d_comp p.1 hi _, True.intro, ?_⟩
            conv => whnf
            refine And.intro (fun q2 => ?_) (fun q2 => ?_) <;> (conv => whnf)
            · refine ⟨rfl, ?_⟩
              rw [hxs]
              refine hlen (hend p e2 e4 ?_)
              rw [cmpB_eq] at q2
              rw [hP0]
              simp only [decide_eq_true_eq] at q2
              simp only [Bool.false_or, decide_eq_false_iff_not]
              omega
            · obtain ⟨a1, a2, a3⟩ := hat (hgo p e2 (by
                rw [cmpB_eq] at q2
                rw [hP0]
                simp only [decide_eq_false_iff_not] at q2
                simp only [Bool.false_or, decide_eq_true_eq]
                omega))
              refine ⟨_, _, hfd _, True.intro, ?_⟩
              conv => whnf
              refine ⟨rfl, hP, by rw [hxs]; show (inY IL)[k]? = _; unfold inY; rw [List.getElem?_map, a1]; rfl, ?_, ?_⟩
              rotate_left
              · conv => whnf
                exact ⟨rfl, True.intro⟩
              · conv => whnf
                refine ⟨_, _, c103r p.1 (by omega) _, True.intro, ?_⟩
                conv => whnf
                refine ⟨fun y hy => by simp at hy; subst hy; rfl, ?_⟩
                conv => whnf
                refine ⟨by unfold rowB; simp, by (first | omega | (dsimp only; omega) | (simp; done) | (simp; omega)), ?_⟩
                conv => whnf
                refine ⟨(k + 1, some (p.1 ++ [0])), [0, 1, 2, 3, 5], ⟨a3, by show (p.1 ++ [0]).length ≤ 2000000; rw [List.length_append]; show p.1.length + 1 ≤ _; omega, a2⟩, by show (L.filter (geP (p.1 ++ [0]))).length < (L.filter (geP lo)).length; rw [e2]; exact Nat.lt_succ_self _, And.intro rfl (And.intro ?_ ?_)⟩
                all_goals (repeat' (first | exact True.intro | exact rfl | refine And.intro ?_ ?_))
                all_goals (first | (exact congrArg (PV.row 0 5) (show p.1.length + 1 = (p.1 ++ [0]).length by simp)) | (exact congrArg (PV.row 0 6) (show p.1.length + 1 = (p.1 ++ [0]).length by simp)) | (show rowB p.1 ++ _ = rowB (p.1 ++ [0]); unfold rowB; rw [List.map_append]; rfl))
          · obtain rfl : op = true := by simpa using q
            obtain ⟨a1, a2, a3⟩ := hat (hgo p e2 (by rw [hP0]; rfl))
            refine ⟨_, _, hfd _, True.intro, ?_⟩
            conv => whnf
            refine ⟨rfl, hP, by rw [hxs]; show (inY IL)[k]? = _; unfold inY; rw [List.getElem?_map, a1]; rfl, ?_, ?_⟩
            rotate_left
            · conv => whnf
              exact ⟨rfl, True.intro⟩
            · conv => whnf
              refine ⟨_, _, c103r p.1 (by omega) _, True.intro, ?_⟩
              conv => whnf
              refine ⟨fun y hy => by simp at hy; subst hy; rfl, ?_⟩
              conv => whnf
              refine ⟨by unfold rowB; simp, by (first | omega | (dsimp only; omega) | (simp; done) | (simp; omega)), ?_⟩
              conv => whnf
              refine ⟨(k + 1, some (p.1 ++ [0])), [0, 1, 2, 3, 5], ⟨a3, by show (p.1 ++ [0]).length ≤ 2000000; rw [List.length_append]; show p.1.length + 1 ≤ _; omega, a2⟩, by show (L.filter (geP (p.1 ++ [0]))).length < (L.filter (geP lo)).length; rw [e2]; exact Nat.lt_succ_self _, And.intro rfl (And.intro ?_ ?_)⟩
              all_goals (repeat' (first | exact True.intro | exact rfl | refine And.intro ?_ ?_))
              all_goals (first | (exact congrArg (PV.row 0 5) (show p.1.length + 1 = (p.1 ++ [0]).length by simp)) | (exact congrArg (PV.row 0 6) (show p.1.length + 1 = (p.1 ++ [0]).length by simp)) | (show rowB p.1 ++ _ = rowB (p.1 ++ [0]); unfold rowB; rw [List.map_append]; rfl))
      | some a =>
        dsimp only [Option.getD] at hol hI hstep hend hgo
        have hnx := fun H => d_nextG d s.b a hd hn H
        rw [hnext] at hnx
        rcases hstep with ⟨e1, e2⟩ | ⟨p, e1, e2, e3, e4⟩
        · rw [e1] at hnx
          conv => whnf
          refine ⟨_, _, _, hnx _, ?_⟩
          conv => whnf
          refine And.intro (fun q => absurd q (by decide)) (fun _ => ?_)
          conv => whnf
          exact ⟨rfl, by rw [hxs]; exact hlen (by rw [hI, e2]; rfl)⟩
        · rw [e1] at hnx
          have hpl := hkey p e3
          have hfd := fun H => d_find d s.b p.1 hd hn H
          rw [hfind p e3] at hfd
          conv => whnf
          refine ⟨_, _, _, hnx _, ?_⟩
          conv => whnf
          refine And.intro (fun _ => ?_) (fun q => absurd (show false = true from q) (by decide))
          conv => whnf
          refine And.intro (fun q => ?_) (fun q => ?_) <;> (conv => whnf)
          · obtain rfl : op = false := by simpa using q
            refine ⟨_, _, d_comp p.1 hi _, True.intro, ?_⟩
            conv => whnf
            refine And.intro (fun q2 => ?_) (fun q2 => ?_) <;> (conv => whnf)
            · refine ⟨rfl, ?_⟩
              rw [hxs]
              refine hlen (hend p e2 e4 ?_)
              rw [cmpB_eq] at q2
              rw [hP0]
              simp only [decide_eq_true_eq] at q2
              simp only [Bool.false_or, decide_eq_false_iff_not]
              omega
            · obtain ⟨a1, a2, a3⟩ := hat (hgo p e2 (by
                rw [cmpB_eq] at q2
                rw [hP0]
                simp only [decide_eq_false_iff_not] at q2
                simp only [Bool.false_or, decide_eq_true_eq]
                omega))
              refine ⟨_, _, hfd _, True.intro, ?_⟩
              conv => whnf
              refine ⟨rfl, hP, by rw [hxs]; show (inY IL)[k]? = _; unfold inY; rw [List.getElem?_map, a1]; rfl, ?_, ?_⟩
              rotate_left
              · conv => whnf
                exact ⟨rfl, True.intro⟩
              · conv => whnf
                refine ⟨_, _, c103r p.1 (by omega) _, True.intro, ?_⟩
                conv => whnf
                refine ⟨fun y hy => by simp at hy; subst hy; rfl, ?_⟩
                conv => whnf
                refine ⟨by unfold rowB; simp, by (first | omega | (dsimp only; omega) | (simp; done) | (simp; omega)), ?_⟩
                conv => whnf
                refine ⟨(k + 1, some (p.1 ++ [0])), [0, 1, 2, 3, 6], ⟨a3, by show (p.1 ++ [0]).length ≤ 2000000; rw [List.length_append]; show p.1.length + 1 ≤ _; omega, a2⟩, by show (L.filter (geP (p.1 ++ [0]))).length < (L.filter (geP a)).length; rw [e2]; exact Nat.lt_succ_self _, And.intro rfl (And.intro ?_ ?_)⟩
                all_goals (repeat' (first | exact True.intro | exact rfl | refine And.intro ?_ ?_))
                all_goals (first | (exact congrArg (PV.row 0 5) (show p.1.length + 1 = (p.1 ++ [0]).length by simp)) | (exact congrArg (PV.row 0 6) (show p.1.length + 1 = (p.1 ++ [0]).length by simp)) | (show rowB p.1 ++ _ = rowB (p.1 ++ [0]); unfold rowB; rw [List.map_append]; rfl))
          · obtain rfl : op = true := by simpa using q
            obtain ⟨a1, a2, a3⟩ := hat (hgo p e2 (by rw [hP0]; rfl))
            refine ⟨_, _, hfd _, True.intro, ?_⟩
            conv => whnf
            refine ⟨rfl, hP, by rw [hxs]; show (inY IL)[k]? = _; unfold inY; rw [List.getElem?_map, a1]; rfl, ?_, ?_⟩
            rotate_left
            · conv => whnf
              exact ⟨rfl, True.intro⟩
            · conv => whnf
              refine ⟨_, _, c103r p.1 (by omega) _, True.intro, ?_⟩
              conv => whnf
              refine ⟨fun y hy => by simp at hy; subst hy; rfl, ?_⟩
              conv => whnf
              refine ⟨by unfold rowB; simp, by (first | omega | (dsimp only; omega) | (simp; done) | (simp; omega)), ?_⟩
              conv => whnf
              refine ⟨(k + 1, some (p.1 ++ [0])), [0, 1, 2, 3, 6], ⟨a3, by show (p.1 ++ [0]).length ≤ 2000000; rw [List.length_append]; show p.1.length + 1 ≤ _; omega, a2⟩, by show (L.filter (geP (p.1 ++ [0]))).length < (L.filter (geP a)).length; rw [e2]; exact Nat.lt_succ_self _, And.intro rfl (And.intro ?_ ?_)⟩
              all_goals (repeat' (first | exact True.intro | exact rfl | refine And.intro ?_ ?_))
              all_goals (first | (exact congrArg (PV.row 0 5) (show p.1.length + 1 = (p.1 ++ [0]).length by simp)) | (exact congrArg (PV.row 0 6) (show p.1.length + 1 = (p.1 ++ [0]).length by simp)) | (show rowB p.1 ++ _ = rowB (p.1 ++ [0]); unfold rowB; rw [List.map_append]; rfl))
theorem i_in2 (d : Nat) (s : Sto) (x : Span) (hd : d ≤ 16) (hs : sOk d s) (hc : stCheck d s = true) (ht : x.t = 2) (hlo : x.lo.length ≤ 1000000) (hhi : x.hi.length ≤ 1000000) : IterEq X 49 (inG s x) [.ptr 0 0 0, .ptr 0 1 0] (inY (inT d s.c x)) := by
  have hn : nOk d s.c := hs.2.2.1
  have hchk := fun H => c_check d s hd hs H
  rw [hc] at hchk
  have hsort := pairs_sorted d s.c
  have hmem := pairs_mem (d := d) hn
  obtain ⟨t, lo, hi, op⟩ := x
  dsimp only at ht hlo hhi
  subst ht
  unfold inT
  generalize hL : pairsN d s.c = L at hsort hmem
  have hnext : ∀ a, nextA d s.c a = (L.find? (geP a)).map (·.1) := fun a => by rw [← hL]; exact nextA_eq hn a
  have hfind : ∀ p ∈ L, findA d s.c p.1 = some p.2 := fun p hp => by rw [findA_eq hn, hL, find_self hsort hp]; rfl
  rw [in_first]
  dsimp only
  have hP0 : ∀ p, hiOk (⟨2, lo, hi, op⟩ : Span) p = (op || decide (cm p.1 hi < 0)) := fun _ => rfl
  generalize hiOk (⟨2, lo, hi, op⟩ : Span) = hp at hP0 ⊢
  generalize hI0 : (L.filter (geP lo)).filter hp = IL
  have hlenIL : (inY IL).length = IL.length := List.length_map ..
  change IterEq X 49 [⟨0, 0, [[encKs s.a.keys, encCs s.a.chains, encNs s.a.kids, encKs s.b.keys, encCs s.b.chains, encNs s.b.kids, encKs s.c.keys, encCs s.c.chains, encNs s.c.kids, encKs s.d.keys, encCs s.d.chains, encNs s.d.kids]]⟩, ⟨0, 0, [[.int .i64 2, encB lo, encB hi, .bool op]]⟩] [.ptr 0 0 0, .ptr 0 1 0] (inY IL)
  refine iterEq_of_bodyM X_ok (mo := moIn) (by kernel_rfl) Try.func49 rfl rfl ?_
  intro Y hP hxs
  conv => whnf
  refine ⟨_, _, hchk _, True.intro, ?_⟩
  conv => whnf
  refine And.intro (fun _ => ?_) (fun q => absurd q (by decide))
  conv => whnf
  refine ⟨_, _, c_fits 2 _, True.intro, ?_⟩
  conv => whnf
  refine And.intro (fun q => absurd q (by decide)) (fun _ => ?_)
  conv => whnf
  refine cutV_of [.yld Y, .ptr 0 0 0, .ptr 0 1 0, .any, .ptr 0 3 0, .d (encB lo), .any, .any, .any, .any, .any, .any, .any, .any, .any, .any, .any, .any, .any, .any, .any, .any, .any, .any, .any, .any, .any, .any, .any, .any, .any, .any, .any, .any, .any, .any, .any, .any, .any, .any, .any, .any, .any, .any, .any, .any, .any, .any, .any, .any, .any, .any, .any, .any, .any, .any, .any, .any, .any, .any, .any] [.box s.cells, .box [.d (.int .i64 2), .d (encB lo), .d (encB hi), .d (.bool op)], .gen Y (some 0), bNode s.c] ?_ ?_
  · conv => whnf
    repeat' (first
      | (refine ⟨[0, 1, 2, 3], And.intro rfl (And.intro ?_ ?_)⟩ <;> (repeat' (first | exact True.intro | exact rfl | refine And.intro ?_ ?_)); done)
      | (refine ⟨by decide, by decide, ?_⟩; conv => whnf)
      | (refine ⟨2, rfl, ?_⟩; conv => whnf)
      | (refine And.intro ?_ ?_ <;> (conv => whnf)))
  · conv => whnf
    refine loopV_of (fun j : Nat × Option (List UInt8) => match j.2 with
        | none => ⟨[.yld Y, .ptr 0 0 0, .ptr 0 1 0, .any, .ptr 0 3 0, .d (encB lo), .any, .any, .any, .any, .any, .any, .any, .any, .any, .any, .any, .any, .any, .any, .any, .any, .any, .any, .any, .any, .any, .any, .any, .any, .any, .any, .any, .any, .any, .any, .any, .any, .any, .any, .any, .any, .any, .any, .any, .any, .any, .any, .any, .any, .any, .any, .any, .any, .any, .any, .any, .any, .any, .any, .any], [.box s.cells, .box [.d (.int .i64 2), .d (encB lo), .d (encB hi), .d (.bool op)], .gen Y (some j.1), bNode s.c]⟩
        | some a => ⟨[.yld Y, .ptr 0 0 0, .ptr 0 1 0, .any, .ptr 0 3 0, .row 0 4 a.length, .any, .any, .any, .any, .any, .any, .any, .any, .any, .any, .any, .any, .any, .any, .any, .any, .any, .any, .any, .any, .any, .any, .any, .any, .any, .any, .any, .any, .any, .any, .any, .any, .any, .any, .any, .any, .any, .any, .any, .any, .any, .any, .any, .any, .any, .any, .any, .any, .any, .any, .any, .any, .any, .any, .any], [.box s.cells, .box [.d (.int .i64 2), .d (encB lo), .d (encB hi), .d (.bool op)], .gen Y (some j.1), bNode s.c, .row 5 1 (rowB a)]⟩)
      (fun j => j.1 ≤ IL.length ∧ (j.2.getD lo).length ≤ 2000000 ∧ IL.drop j.1 = (L.filter (geP (j.2.getD lo))).filter hp) (fun j => (L.filter (geP (j.2.getD lo))).length) (0, none) [0, 1, 2, 3] ⟨Nat.zero_le _, by show lo.length ≤ 2000000; omega, hI0.symm⟩ ?_ ?_
    · refine And.intro rfl (And.intro ?_ ?_)
      all_goals (repeat' (first | exact True.intro | exact rfl | refine And.intro ?_ ?_))
    · rintro ⟨k, o⟩ ⟨hk, hol, hI⟩
      dsimp only at hk hol hI
      have hstep := in_next hsort (o.getD lo)
      have hend : ∀ p, (L.filter (geP (o.getD lo))) = p :: L.filter (geP (p.1 ++ [0])) → (∀ q ∈ L.filter (geP (p.1 ++ [0])), cm p.1 q.1 < 0) → hp p = false → IL.drop k = [] := fun p e2 e4 hf => by
        rw [hI, e2, List.filter_cons, hf]
        simp only [Bool.false_eq_true, if_false]
        refine List.filter_eq_nil_iff.2 fun q hq => ?_
        rw [hP0] at hf ⊢
        have h1 := e4 q hq
        cases op with
        | true => simp at hf
        | false =>
          simp only [Bool.false_or, decide_eq_false_iff_not, decide_eq_true_eq] at hf ⊢
          exact fun h => hf (cm_lt_trans h1 h)
      have hgo : ∀ p, (L.filter (geP (o.getD lo))) = p :: L.filter (geP (p.1 ++ [0])) → hp p = true → IL.drop k = p :: (L.filter (geP (p.1 ++ [0]))).filter hp := fun p e2 hf => by
        rw [hI, e2, List.filter_cons, hf, if_pos rfl]
      have hlen : IL.drop k = [] → k = (inY IL).length := fun h => by
        have := List.drop_eq_nil_iff.1 h
        rw [hlenIL]; omega
      have hat : ∀ {p R}, IL.drop k = p :: R → IL[k]? = some p ∧ IL.drop (k + 1) = R ∧ k < IL.length := fun {p R} h => by
        have hk' : k < IL.length := by
          rcases Nat.lt_or_ge k IL.length with h' | h'
          · exact h'
          · rw [List.drop_eq_nil_iff.2 h'] at h; cases h
        rw [List.drop_eq_getElem_cons hk'] at h
        simp only [List.cons.injEq] at h
        exact ⟨by rw [List.getElem?_eq_getElem hk', h.1], h.2, hk'⟩
      have hkey : ∀ p ∈ L, p.1.length ≤ 1000000 := fun p hp => (hmem p hp).1
      cases o with
      | none =>
        dsimp only [Option.getD] at hol hI hstep hend hgo
        have hnx := fun H => (d_next d s.c lo hd hn H).g
        rw [hnext] at hnx
        rcases hstep with ⟨e1, e2⟩ | ⟨p, e1, e2, e3, e4⟩
        · rw [e1] at hnx
          conv => whnf
          refine ⟨_, _, _, hnx _, ?_⟩
          conv => whnf
          refine And.intro (fun q => absurd q (by decide)) (fun _ => ?_)
          conv => whnf
          exact ⟨rfl, by rw [hxs]; exact hlen (by rw [hI, e2]; rfl)⟩
        · rw [e1] at hnx
          have hpl := hkey p e3
          have hfd := fun H => d_find d s.c p.1 hd hn H
          rw [hfind p e3] at hfd
          conv => whnf
          refine ⟨_, _, _, hnx _, ?_⟩
          conv => whnf
          refine And.intro (fun _ => ?_) (fun q => absurd (show false = true from q) (by decide))
          conv => whnf
          refine And.intro (fun q => ?_) (fun q => ?_) <;> (conv => whnf)
          · obtain rfl : op = false := by simpa using q
            refine ⟨_, _, d_comp p.1 hi _, True.intro, ?_⟩
            conv => whnf
            refine And.intro (fun q2 => ?_) (fun q2 => ?_) <;> (conv => whnf)
            · refine ⟨rfl, ?_⟩
              rw [hxs]
              refine hlen (hend p e2 e4 ?_)
              rw [cmpB_eq] at q2
              rw [hP0]
              simp only [decide_eq_true_eq] at q2
              simp only [Bool.false_or, decide_eq_false_iff_not]
              omega
            · obtain ⟨a1, a2, a3⟩ := hat (hgo p e2 (by
                rw [cmpB_eq] at q2
                rw [hP0]
                simp only [decide_eq_false_iff_not] at q2
                simp only [Bool.false_or, decide_eq_true_eq]
                omega))
              refine ⟨_, _, hfd _, True.intro, ?_⟩
              conv => whnf
              refine ⟨rfl, hP, by rw [hxs]; show (inY IL)[k]? = _; unfold inY; rw [List.getElem?_map, a1]; rfl, ?_, ?_⟩
              rotate_left
              · conv => whnf
                exact ⟨rfl, True.intro⟩
              · conv => whnf
                refine ⟨_, _, c103r p.1 (by omega) _, True.intro, ?_⟩
                conv => whnf
                refine ⟨fun y hy => by simp at hy; subst hy; rfl, ?_⟩
                conv => whnf
                refine ⟨by unfold rowB; simp, by (first | omega | (dsimp only; omega) | (simp; done) | (simp; omega)), ?_⟩
                conv => whnf
                refine ⟨(k + 1, some (p.1 ++ [0])), [0, 1, 2, 3, 5], ⟨a3, by show (p.1 ++ [0]).length ≤ 2000000; rw [List.length_append]; show p.1.length + 1 ≤ _; omega, a2⟩, by show (L.filter (geP (p.1 ++ [0]))).length < (L.filter (geP lo)).length; rw [e2]; exact Nat.lt_succ_self _, And.intro rfl (And.intro ?_ ?_)⟩
                all_goals (repeat' (first | exact True.intro | exact rfl | refine And.intro ?_ ?_))
                all_goals (first | (exact congrArg (PV.row 0 5) (show p.1.length + 1 = (p.1 ++ [0]).length by simp)) | (exact congrArg (PV.row 0 6) (show p.1.length + 1 = (p.1 ++ [0]).length by simp)) | (show rowB p.1 ++ _ = rowB (p.1 ++ [0]); unfold rowB; rw [List.map_append]; rfl))
          · obtain rfl : op = true := by simpa using q
            obtain ⟨a1, a2, a3⟩ := hat (hgo p e2 (by rw [hP0]; rfl))
            refine ⟨_, _, hfd _, True.intro, ?_⟩
            conv => whnf
            refine ⟨rfl, hP, by rw [hxs]; show (inY IL)[k]? = _; unfold inY; rw [List.getElem?_map, a1]; rfl, ?_, ?_⟩
            rotate_left
            · conv => whnf
              exact ⟨rfl, True.intro⟩
            · conv => whnf
              refine ⟨_, _, c103r p.1 (by omega) _, True.intro, ?_⟩
              conv => whnf
              refine ⟨fun y hy => by simp at hy; subst hy; rfl, ?_⟩
              conv => whnf
              refine ⟨by unfold rowB; simp, by (first | omega | (dsimp only; omega) | (simp; done) | (simp; omega)), ?_⟩
              conv => whnf
              refine ⟨(k + 1, some (p.1 ++ [0])), [0, 1, 2, 3, 5], ⟨a3, by show (p.1 ++ [0]).length ≤ 2000000; rw [List.length_append]; show p.1.length + 1 ≤ _; omega, a2⟩, by show (L.filter (geP (p.1 ++ [0]))).length < (L.filter (geP lo)).length; rw [e2]; exact Nat.lt_succ_self _, And.intro rfl (And.intro ?_ ?_)⟩
              all_goals (repeat' (first | exact True.intro | exact rfl | refine And.intro ?_ ?_))
              all_goals (first | (exact congrArg (PV.row 0 5) (show p.1.length + 1 = (p.1 ++ [0]).length by simp)) | (exact congrArg (PV.row 0 6) (show p.1.length + 1 = (p.1 ++ [0]).length by simp)) | (show rowB p.1 ++ _ = rowB (p.1 ++ [0]); unfold rowB; rw [List.map_append]; rfl))
      | some a =>
        dsimp only [Option.getD] at hol hI hstep hend hgo
        have hnx := fun H => d_nextG d s.c a hd hn H
        rw [hnext] at hnx
        rcases hstep with ⟨e1, e2⟩ | ⟨p, e1, e2, e3, e4⟩
        · rw [e1] at hnx
          conv => whnf
          refine ⟨_, _, _, hnx _, ?_⟩
          conv => whnf
          refine And.intro (fun q => absurd q (by decide)) (fun _ => ?_)
          conv => whnf
          exact ⟨rfl, by rw [hxs]; exact hlen (by rw [hI, e2]; rfl)⟩
        · rw [e1] at hnx
          have hpl := hkey p e3
          have hfd := fun H => d_find d s.c p.1 hd hn H
          rw [hfind p e3] at hfd
          conv => whnf
          refine ⟨_, _, _, hnx _, ?_⟩
          conv => whnf
          refine And.intro (fun _ => ?_) (fun q => absurd (show false = true from q) (by decide))
          conv => whnf
          refine And.intro (fun q => ?_) (fun q => ?_) <;> (conv => whnf)
          · obtain rfl : op = false := by simpa using q
            refine ⟨_, _, d_comp p.1 hi _, True.intro, ?_⟩
            conv => whnf
            refine And.intro (fun q2 => ?_) (fun q2 => ?_) <;> (conv => whnf)
            · refine ⟨rfl, ?_⟩
              rw [hxs]
              refine hlen (hend p e2 e4 ?_)
              rw [cmpB_eq] at q2
              rw [hP0]
              simp only [decide_eq_true_eq] at q2
              simp only [Bool.false_or, decide_eq_false_iff_not]
              omega
            · obtain ⟨a1, a2, a3⟩ := hat (hgo p e2 (by
                rw [cmpB_eq] at q2
                rw [hP0]
                simp only [decide_eq_false_iff_not] at q2
                simp only [Bool.false_or, decide_eq_true_eq]
                omega))
              refine ⟨_, _, hfd _, True.intro, ?_⟩
              conv => whnf
              refine ⟨rfl, hP, by rw [hxs]; show (inY IL)[k]? = _; unfold inY; rw [List.getElem?_map, a1]; rfl, ?_, ?_⟩
              rotate_left
              · conv => whnf
                exact ⟨rfl, True.intro⟩
              · conv => whnf
                refine ⟨_, _, c103r p.1 (by omega) _, True.intro, ?_⟩
                conv => whnf
                refine ⟨fun y hy => by simp at hy; subst hy; rfl, ?_⟩
                conv => whnf
                refine ⟨by unfold rowB; simp, by (first | omega | (dsimp only; omega) | (simp; done) | (simp; omega)), ?_⟩
                conv => whnf
                refine ⟨(k + 1, some (p.1 ++ [0])), [0, 1, 2, 3, 6], ⟨a3, by show (p.1 ++ [0]).length ≤ 2000000; rw [List.length_append]; show p.1.length + 1 ≤ _; omega, a2⟩, by show (L.filter (geP (p.1 ++ [0]))).length < (L.filter (geP a)).length; rw [e2]; exact Nat.lt_succ_self _, And.intro rfl (And.intro ?_ ?_)⟩
                all_goals (repeat' (first | exact True.intro | exact rfl | refine And.intro ?_ ?_))
                all_goals (first | (exact congrArg (PV.row 0 5) (show p.1.length + 1 = (p.1 ++ [0]).length by simp)) | (exact congrArg (PV.row 0 6) (show p.1.length + 1 = (p.1 ++ [0]).length by simp)) | (show rowB p.1 ++ _ = rowB (p.1 ++ [0]); unfold rowB; rw [List.map_append]; rfl))
          · obtain rfl : op = true := by simpa using q
            obtain ⟨a1, a2, a3⟩ := hat (hgo p e2 (by rw [hP0]; rfl))
            refine ⟨_, _, hfd _, True.intro, ?_⟩
            conv => whnf
            refine ⟨rfl, hP, by rw [hxs]; show (inY IL)[k]? = _; unfold inY; rw [List.getElem?_map, a1]; rfl, ?_, ?_⟩
            rotate_left
            · conv => whnf
              exact ⟨rfl, True.intro⟩
            · conv => whnf
              refine ⟨_, _, c103r p.1 (by omega) _, True.intro, ?_⟩
              conv => whnf
              refine ⟨fun y hy => by simp at hy; subst hy; rfl, ?_⟩
              conv => whnf
              refine ⟨by unfold rowB; simp, by (first | omega | (dsimp only; omega) | (simp; done) | (simp; omega)), ?_⟩
              conv => whnf
              refine ⟨(k + 1, some (p.1 ++ [0])), [0, 1, 2, 3, 6], ⟨a3, by show (p.1 ++ [0]).length ≤ 2000000; rw [List.length_append]; show p.1.length + 1 ≤ _; omega, a2⟩, by show (L.filter (geP (p.1 ++ [0]))).length < (L.filter (geP a)).length; rw [e2]; exact Nat.lt_succ_self _, And.intro rfl (And.intro ?_ ?_)⟩
              all_goals (repeat' (first | exact True.intro | exact rfl | refine And.intro ?_ ?_))
              all_goals (first | (exact congrArg (PV.row 0 5) (show p.1.length + 1 = (p.1 ++ [0]).length by simp)) | (exact congrArg (PV.row 0 6) (show p.1.length + 1 = (p.1 ++ [0]).length by simp)) | (show rowB p.1 ++ _ = rowB (p.1 ++ [0]); unfold rowB; rw [List.map_append]; rfl))
theorem i_in3 (d : Nat) (s : Sto) (x : Span) (hd : d ≤ 16) (hs : sOk d s) (hc : stCheck d s = true) (ht : x.t = 3) (hlo : x.lo.length ≤ 1000000) (hhi : x.hi.length ≤ 1000000) : IterEq X 49 (inG s x) [.ptr 0 0 0, .ptr 0 1 0] (inY (inT d s.d x)) := by
  have hn : nOk d s.d := hs.2.2.2
  have hchk := fun H => c_check d s hd hs H
  rw [hc] at hchk
  have hsort := pairs_sorted d s.d
  have hmem := pairs_mem (d := d) hn
  obtain ⟨t, lo, hi, op⟩ := x
  dsimp only at ht hlo hhi
  subst ht
  unfold inT
  generalize hL : pairsN d s.d = L at hsort hmem
  have hnext : ∀ a, nextA d s.d a = (L.find? (geP a)).map (·.1) := fun a => by rw [← hL]; exact nextA_eq hn a
  have hfind : ∀ p ∈ L, findA d s.d p.1 = some p.2 := fun p hp => by rw [findA_eq hn, hL, find_self hsort hp]; rfl
  rw [in_first]
  dsimp only
  have hP0 : ∀ p, hiOk (⟨3, lo, hi, op⟩ : Span) p = (op || decide (cm p.1 hi < 0)) := fun _ => rfl
  generalize hiOk (⟨3, lo, hi, op⟩ : Span) = hp at hP0 ⊢
  generalize hI0 : (L.filter (geP lo)).filter hp = IL
  have hlenIL : (inY IL).length = IL.length := List.length_map ..
  change IterEq X 49 [⟨0, 0, [[encKs s.a.keys, encCs s.a.chains, encNs s.a.kids, encKs s.b.keys, encCs s.b.chains, encNs s.b.kids, encKs s.c.keys, encCs s.c.chains, encNs s.c.kids, encKs s.d.keys, encCs s.d.chains, encNs s.d.kids]]⟩, ⟨0, 0, [[.int .i64 3, encB lo, encB hi, .bool op]]⟩] [.ptr 0 0 0, .ptr 0 1 0] (inY IL)
  refine iterEq_of_bodyM X_ok (mo := moIn) (by kernel_rfl) Try.func49 rfl rfl ?_
  intro Y hP hxs
  conv => whnf
  refine ⟨_, _, hchk _, True.intro, ?_⟩
  conv => whnf
  refine And.intro (fun _ => ?_) (fun q => absurd q (by decide))
  conv => whnf
  refine ⟨_, _, c_fits 3 _, True.intro, ?_⟩
  conv => whnf
  refine And.intro (fun q => absurd q (by decide)) (fun _ => ?_)
  conv => whnf
  refine cutV_of [.yld Y, .ptr 0 0 0, .ptr 0 1 0, .any, .ptr 0 3 0, .d (encB lo), .any, .any, .any, .any, .any, .any, .any, .any, .any, .any, .any, .any, .any, .any, .any, .any, .any, .any, .any, .any, .any, .any, .any, .any, .any, .any, .any, .any, .any, .any, .any, .any, .any, .any, .any, .any, .any, .any, .any, .any, .any, .any, .any, .any, .any, .any, .any, .any, .any, .any, .any, .any, .any, .any, .any] [.box s.cells, .box [.d (.int .i64 3), .d (encB lo), .d (encB hi), .d (.bool op)], .gen Y (some 0), bNode s.d] ?_ ?_
  · conv => whnf
    repeat' (first
      | (refine ⟨[0, 1, 2, 3], And.intro rfl (And.intro ?_ ?_)⟩ <;> (repeat' (first | exact True.intro | exact rfl | refine And.intro ?_ ?_)); done)
      | (refine ⟨by decide, by decide, ?_⟩; conv => whnf)
      | (refine ⟨3, rfl, ?_⟩; conv => whnf)
      | (refine And.intro ?_ ?_ <;> (conv => whnf)))
  · conv => whnf
    refine loopV_of (fun j : Nat × Option (List UInt8) => match j.2 with
        | none => ⟨[.yld Y, .ptr 0 0 0, .ptr 0 1 0, .any, .ptr 0 3 0, .d (encB lo), .any, .any, .any, .any, .any, .any, .any, .any, .any, .any, .any, .any, .any, .any, .any, .any, .any, .any, .any, .any, .any, .any, .any, .any, .any, .any, .any, .any, .any, .any, .any, .any, .any, .any, .any, .any, .any, .any, .any, .any, .any, .any, .any, .any, .any, .any, .any, .any, .any, .any, .any, .any, .any, .any, .any], [.box s.cells, .box [.d (.int .i64 3), .d (encB lo), .d (encB hi), .d (.bool op)], .gen Y (some j.1), bNode s.d]⟩
        | some a => ⟨[.yld Y, .ptr 0 0 0, .ptr 0 1 0, .any, .ptr 0 3 0, .row 0 4 a.length, .any, .any, .any, .any, .any, .any, .any, .any, .any, .any, .any, .any, .any, .any, .any, .any, .any, .any, .any, .any, .any, .any, .any, .any, .any, .any, .any, .any, .any, .any, .any, .any, .any, .any, .any, .any, .any, .any, .any, .any, .any, .any, .any, .any, .any, .any, .any, .any, .any, .any, .any, .any, .any, .any, .any], [.box s.cells, .box [.d (.int .i64 3), .d (encB lo), .d (encB hi), .d (.bool op)], .gen Y (some j.1), bNode s.d, .row 5 1 (rowB a)]⟩)
      (fun j => j.1 ≤ IL.length ∧ (j.2.getD lo).length ≤ 2000000 ∧ IL.drop j.1 = (L.filter (geP (j.2.getD lo))).filter hp) (fun j => (L.filter (geP (j.2.getD lo))).length) (0, none) [0, 1, 2, 3] ⟨Nat.zero_le _, by show lo.length ≤ 2000000; omega, hI0.symm⟩ ?_ ?_
    · refine And.intro rfl (And.intro ?_ ?_)
      all_goals (repeat' (first | exact True.intro | exact rfl | refine And.intro ?_ ?_))
    · rintro ⟨k, o⟩ ⟨hk, hol, hI⟩
      dsimp only at hk hol hI
      have hstep := in_next hsort (o.getD lo)
      have hend : ∀ p, (L.filter (geP (o.getD lo))) = p :: L.filter (geP (p.1 ++ [0])) → (∀ q ∈ L.filter (geP (p.1 ++ [0])), cm p.1 q.1 < 0) → hp p = false → IL.drop k = [] := fun p e2 e4 hf => by
        rw [hI, e2, List.filter_cons, hf]
        simp only [Bool.false_eq_true, if_false]
        refine List.filter_eq_nil_iff.2 fun q hq => ?_
        rw [hP0] at hf ⊢
        have h1 := e4 q hq
        cases op with
        | true => simp at hf
        | false =>
          simp only [Bool.false_or, decide_eq_false_iff_not, decide_eq_true_eq] at hf ⊢
          exact fun h => hf (cm_lt_trans h1 h)
      have hgo : ∀ p, (L.filter (geP (o.getD lo))) = p :: L.filter (geP (p.1 ++ [0])) → hp p = true → IL.drop k = p :: (L.filter (geP (p.1 ++ [0]))).filter hp := fun p e2 hf => by
        rw [hI, e2, List.filter_cons, hf, if_pos rfl]
      have hlen : IL.drop k = [] → k = (inY IL).length := fun h => by
        have := List.drop_eq_nil_iff.1 h
        rw [hlenIL]; omega
      have hat : ∀ {p R}, IL.drop k = p :: R → IL[k]? = some p ∧ IL.drop (k + 1) = R ∧ k < IL.length := fun {p R} h => by
        have hk' : k < IL.length := by
          rcases Nat.lt_or_ge k IL.length with h' | h'
          · exact h'
          · rw [List.drop_eq_nil_iff.2 h'] at h; cases h
        rw [List.drop_eq_getElem_cons hk'] at h
        simp only [List.cons.injEq] at h
        exact ⟨by rw [List.getElem?_eq_getElem hk', h.1], h.2, hk'⟩
      have hkey : ∀ p ∈ L, p.1.length ≤ 1000000 := fun p hp => (hmem p hp).1
      cases o with
      | none =>
        dsimp only [Option.getD] at hol hI hstep hend hgo
        have hnx := fun H => (d_next d s.d lo hd hn H).g
        rw [hnext] at hnx
        rcases hstep with ⟨e1, e2⟩ | ⟨p, e1, e2, e3, e4⟩
        · rw [e1] at hnx
          conv => whnf
          refine ⟨_, _, _, hnx _, ?_⟩
          conv => whnf
          refine And.intro (fun q => absurd q (by decide)) (fun _ => ?_)
          conv => whnf
          exact ⟨rfl, by rw [hxs]; exact hlen (by rw [hI, e2]; rfl)⟩
        · rw [e1] at hnx
          have hpl := hkey p e3
          have hfd := fun H => d_find d s.d p.1 hd hn H
          rw [hfind p e3] at hfd
          conv => whnf
          refine ⟨_, _, _, hnx _, ?_⟩
          conv => whnf
          refine And.intro (fun _ => ?_) (fun q => absurd (show false = true from q) (by decide))
          conv => whnf
          refine And.intro (fun q => ?_) (fun q => ?_) <;> (conv => whnf)
          · obtain rfl : op = false := by simpa using q
            refine ⟨_, _, d_comp p.1 hi _, True.intro, ?_⟩
            conv => whnf
            refine And.intro (fun q2 => ?_) (fun q2 => ?_) <;> (conv => whnf)
            · refine ⟨rfl, ?_⟩
              rw [hxs]
              refine hlen (hend p e2 e4 ?_)
              rw [cmpB_eq] at q2
              rw [hP0]
              simp only [decide_eq_true_eq] at q2
              simp only [Bool.false_or, decide_eq_false_iff_not]
              omega
            · obtain ⟨a1, a2, a3⟩ := hat (hgo p e2 (by
                rw [cmpB_eq] at q2
                rw [hP0]
                simp only [decide_eq_false_iff_not] at q2
                simp only [Bool.false_or, decide_eq_true_eq]
                omega))
              refine ⟨_, _, hfd _, True.intro, ?_⟩
              conv => whnf
              refine ⟨rfl, hP, by rw [hxs]; show (inY IL)[k]? = _; unfold inY; rw [List.getElem?_map, a1]; rfl, ?_, ?_⟩
              rotate_left
              · conv => whnf
                exact ⟨rfl, True.intro⟩
              · conv => whnf
                refine ⟨_, _, c103r p.1 (by omega) _, True.intro, ?_⟩
                conv => whnf
                refine ⟨fun y hy => by simp at hy; subst hy; rfl, ?_⟩
                conv => whnf
                refine ⟨by unfold rowB; simp, by (first | omega | (dsimp only; omega) | (simp; done) | (simp; omega)), ?_⟩
                conv => whnf
                refine ⟨(k + 1, some (p.1 ++ [0])), [0, 1, 2, 3, 5], ⟨a3, by show (p.1 ++ [0]).length ≤ 2000000; rw [List.length_append]; show p.1.length + 1 ≤ _; omega, a2⟩, by show (L.filter (geP (p.1 ++ [0]))).length < (L.filter (geP lo)).length; rw [e2]; exact Nat.lt_succ_self _, And.intro rfl (And.intro ?_ ?_)⟩
                all_goals (repeat' (first | exact True.intro | exact rfl | refine And.intro ?_ ?_))
                all_goals (first | (exact congrArg (PV.row 0 5) (show p.1.length + 1 = (p.1 ++ [0]).length by simp)) | (exact congrArg (PV.row 0 6) (show p.1.length + 1 = (p.1 ++ [0]).length by simp)) | (show rowB p.1 ++ _ = rowB (p.1 ++ [0]); unfold rowB; rw [List.map_append]; rfl))
          · obtain rfl : op = true := by simpa using q
            obtain ⟨a1, a2, a3⟩ := hat (hgo p e2 (by rw [hP0]; rfl))
            refine ⟨_, _, hfd _, True.intro, ?_⟩
            conv => whnf
            refine ⟨rfl, hP, by rw [hxs]; show (inY IL)[k]? = _; unfold inY; rw [List.getElem?_map, a1]; rfl, ?_, ?_⟩
            rotate_left
            · conv => whnf
              exact ⟨rfl, True.intro⟩
            · conv => whnf
              refine ⟨_, _, c103r p.1 (by omega) _, True.intro, ?_⟩
              conv => whnf
              refine ⟨fun y hy => by simp at hy; subst hy; rfl, ?_⟩
              conv => whnf
              refine ⟨by unfold rowB; simp, by (first | omega | (dsimp only; omega) | (simp; done) | (simp; omega)), ?_⟩
              conv => whnf
              refine ⟨(k + 1, some (p.1 ++ [0])), [0, 1, 2, 3, 5], ⟨a3, by show (p.1 ++ [0]).length ≤ 2000000; rw [List.length_append]; show p.1.length + 1 ≤ _; omega, a2⟩, by show (L.filter (geP (p.1 ++ [0]))).length < (L.filter (geP lo)).length; rw [e2]; exact Nat.lt_succ_self _, And.intro rfl (And.intro ?_ ?_)⟩
              all_goals (repeat' (first | exact True.intro | exact rfl | refine And.intro ?_ ?_))
              all_goals (first | (exact congrArg (PV.row 0 5) (show p.1.length + 1 = (p.1 ++ [0]).length by simp)) | (exact congrArg (PV.row 0 6) (show p.1.length + 1 = (p.1 ++ [0]).length by simp)) | (show rowB p.1 ++ _ = rowB (p.1 ++ [0]); unfold rowB; rw [List.map_append]; rfl))
      | some a =>
        dsimp only [Option.getD] at hol hI hstep hend hgo
        have hnx := fun H => d_nextG d s.d a hd hn H
        rw [hnext] at hnx
        rcases hstep with ⟨e1, e2⟩ | ⟨p, e1, e2, e3, e4⟩
        · rw [e1] at hnx
          conv => whnf
          refine ⟨_, _, _, hnx _, ?_⟩
          conv => whnf
          refine And.intro (fun q => absurd q (by decide)) (fun _ => ?_)
          conv => whnf
          exact ⟨rfl, by rw [hxs]; exact hlen (by rw [hI, e2]; rfl)⟩
        · rw [e1] at hnx
          have hpl := hkey p e3
          have hfd := fun H => d_find d s.d p.1 hd hn H
          rw [hfind p e3] at hfd
          conv => whnf
          refine ⟨_, _, _, hnx _, ?_⟩
          conv => whnf
          refine And.intro (fun _ => ?_) (fun q => absurd (show false = true from q) (by decide))
          conv => whnf
          refine And.intro (fun q => ?_) (fun q => ?_) <;> (conv => whnf)
          · obtain rfl : op = false := by simpa using q
            refine ⟨_, _, d_comp p.1 hi _, True.intro, ?_⟩
            conv => whnf
            refine And.intro (fun q2 => ?_) (fun q2 => ?_) <;> (conv => whnf)
            · refine ⟨rfl, ?_⟩
              rw [hxs]
              refine hlen (hend p e2 e4 ?_)
              rw [cmpB_eq] at q2
              rw [hP0]
              simp only [decide_eq_true_eq] at q2
              simp only [Bool.false_or, decide_eq_false_iff_not]
              omega
            · obtain ⟨a1, a2, a3⟩ := hat (hgo p e2 (by
                rw [cmpB_eq] at q2
                rw [hP0]
                simp only [decide_eq_false_iff_not] at q2
                simp only [Bool.false_or, decide_eq_true_eq]
                omega))
              refine ⟨_, _, hfd _, True.intro, ?_⟩
              conv => whnf
              refine ⟨rfl, hP, by rw [hxs]; show (inY IL)[k]? = _; unfold inY; rw [List.getElem?_map, a1]; rfl, ?_, ?_⟩
              rotate_left
              · conv => whnf
                exact ⟨rfl, True.intro⟩
              · conv => whnf
                refine ⟨_, _, c103r p.1 (by omega) _, True.intro, ?_⟩
                conv => whnf
                refine ⟨fun y hy => by simp at hy; subst hy; rfl, ?_⟩
                conv => whnf
                refine ⟨by unfold rowB; simp, by (first | omega | (dsimp only; omega) | (simp; done) | (simp; omega)), ?_⟩
                conv => whnf
                refine ⟨(k + 1, some (p.1 ++ [0])), [0, 1, 2, 3, 6], ⟨a3, by show (p.1 ++ [0]).length ≤ 2000000; rw [List.length_append]; show p.1.length + 1 ≤ _; omega, a2⟩, by show (L.filter (geP (p.1 ++ [0]))).length < (L.filter (geP a)).length; rw [e2]; exact Nat.lt_succ_self _, And.intro rfl (And.intro ?_ ?_)⟩
                all_goals (repeat' (first | exact True.intro | exact rfl | refine And.intro ?_ ?_))
                all_goals (first | (exact congrArg (PV.row 0 5) (show p.1.length + 1 = (p.1 ++ [0]).length by simp)) | (exact congrArg (PV.row 0 6) (show p.1.length + 1 = (p.1 ++ [0]).length by simp)) | (show rowB p.1 ++ _ = rowB (p.1 ++ [0]); unfold rowB; rw [List.map_append]; rfl))
          · obtain rfl : op = true := by simpa using q
            obtain ⟨a1, a2, a3⟩ := hat (hgo p e2 (by rw [hP0]; rfl))
            refine ⟨_, _, hfd _, True.intro, ?_⟩
            conv => whnf
            refine ⟨rfl, hP, by rw [hxs]; show (inY IL)[k]? = _; unfold inY; rw [List.getElem?_map, a1]; rfl, ?_, ?_⟩
            rotate_left
            · conv => whnf
              exact ⟨rfl, True.intro⟩
            · conv => whnf
              refine ⟨_, _, c103r p.1 (by omega) _, True.intro, ?_⟩
              conv => whnf
              refine ⟨fun y hy => by simp at hy; subst hy; rfl, ?_⟩
              conv => whnf
              refine ⟨by unfold rowB; simp, by (first | omega | (dsimp only; omega) | (simp; done) | (simp; omega)), ?_⟩
              conv => whnf
              refine ⟨(k + 1, some (p.1 ++ [0])), [0, 1, 2, 3, 6], ⟨a3, by show (p.1 ++ [0]).length ≤ 2000000; rw [List.length_append]; show p.1.length + 1 ≤ _; omega, a2⟩, by show (L.filter (geP (p.1 ++ [0]))).length < (L.filter (geP a)).length; rw [e2]; exact Nat.lt_succ_self _, And.intro rfl (And.intro ?_ ?_)⟩
              all_goals (repeat' (first | exact True.intro | exact rfl | refine And.intro ?_ ?_))
              all_goals (first | (exact congrArg (PV.row 0 5) (show p.1.length + 1 = (p.1 ++ [0]).length by simp)) | (exact congrArg (PV.row 0 6) (show p.1.length + 1 = (p.1 ++ [0]).length by simp)) | (show rowB p.1 ++ _ = rowB (p.1 ++ [0]); unfold rowB; rw [List.map_append]; rfl))
theorem i_in (d : Nat) (s : Sto) (x : Span) (hd : d ≤ 16) (hs : sOk d s) (hc : stCheck d s = true) (ht : 0 ≤ x.t ∧ x.t < 4) (hlo : x.lo.length ≤ 1000000) (hhi : x.hi.length ≤ 1000000) : IterEq X 49 (inG s x) [.ptr 0 0 0, .ptr 0 1 0] (inY (inT d (sTab s x.t) x)) := by
  rcases (show x.t = 0 ∨ x.t = 1 ∨ x.t = 2 ∨ x.t = 3 by omega) with h | h | h | h <;> rw [h]
  · exact i_in0 d s x hd hs hc h hlo hhi
  · exact i_in1 d s x hd hs hc h hlo hhi
  · exact i_in2 d s x hd hs hc h hlo hhi
  · exact i_in3 d s x hd hs hc h hlo hhi
theorem i_inN (d : Nat) (s : Sto) (x : Span) (hd : d ≤ 16) (hs : sOk d s) (hc : ¬ (stCheck d s = true ∧ 0 ≤ x.t ∧ x.t < 4)) : IterEq X 49 (inG s x) [.ptr 0 0 0, .ptr 0 1 0] (inY []) := by
  have hchk := fun H => c_check d s hd hs H
  generalize stCheck d s = C at hchk hc
  refine iterEq_of_bodyM X_ok (mo := moIn) (by kernel_rfl) Try.func49 rfl rfl ?_
  intro Y hP hxs
  conv => whnf
  refine ⟨_, _, hchk _, True.intro, ?_⟩
  conv => whnf
  refine And.intro (fun q => ?_) (fun q => ?_) <;> (conv => whnf)
  · refine ⟨_, _, c_fits x.t _, True.intro, ?_⟩
    conv => whnf
    refine And.intro (fun q1 => ?_) (fun q1 => ?_) <;> (conv => whnf)
    · exact ⟨rfl, by rw [hxs]; rfl⟩
    · exfalso
      cases C with
      | false => cases q
      | true =>
        simp only [Bool.not_eq_false', Bool.and_eq_true, decide_eq_true_eq] at q1
        exact hc ⟨rfl, q1.1, q1.2⟩
  · exact ⟨rfl, by rw [hxs]; rfl⟩
end Go.Proofs.Ve

/- Stores: Get, Scan. -/
set_option maxRecDepth 100000
set_option maxHeartbeats 8000000
set_option linter.all false
namespace Go.Proofs.Ve
open Go
theorem fa_ok {d : Nat} {n : Node} (hn : nOk d n) (k : List UInt8) : ((findA d n k).getD []).length < 1000000 ∧ ∀ v ∈ (findA d n k).getD [], v.val.length ≤ 1000000 := by
  rw [findA_eq hn]
  cases h : (pairsN d n).find? (eqP k) with
  | none => exact ⟨by decide, fun v hv => by cases hv⟩
  | some p =>
    have hp : p ∈ pairsN d n := List.mem_of_find?_eq_some h
    have hp2 : p ∈ allD d n := by unfold pairsN at hp; split at hp; exact hp; cases hp
    obtain ⟨_, h2, h3⟩ := allD_mem d n hn p hp2
    exact ⟨by show p.2.length < 1000000; omega, h3⟩
def getA (d : Nat) (s : Sto) (t : Int) (k : List UInt8) (st : Int) : Option (List UInt8) := if stCheck d s && (decide (t ≥ 0) && decide (t < 4)) then readV ((findA d (sTab s t) k).getD []) st else none
theorem c_getN (d : Nat) (s : Sto) (t : Int) (k : List UInt8) (st : Int) (hd : d ≤ 16) (hs : sOk d s) (hc : ¬ (stCheck d s = true ∧ 0 ≤ t ∧ t < 4)) (H : List (List Blk)) : CallEq X H 9 [pSto s, .d (.int .i64 t), .d (encB k), .d (.int .i64 st)] (ansB none) [] := by
  have hchk := fun H => c_check d s hd hs H
  generalize stCheck d s = C at hchk hc
  refine callEq_of_body X_ok rfl Try.func9 rfl ?_
  conv => whnf
  refine ⟨_, _, hchk _, True.intro, ?_⟩
  conv => whnf
  refine And.intro (fun q => ?_) (fun q => ?_) <;> (conv => whnf)
  · refine ⟨_, _, c_fits t _, True.intro, ?_⟩
    conv => whnf
    refine And.intro (fun q1 => ?_) (fun q1 => ?_) <;> (conv => whnf)
    · exact ⟨[], rfl, by (repeat' (first | exact True.intro | exact rfl | refine And.intro ?_ ?_))⟩
    · exfalso
      cases C with
      | false => cases q
      | true =>
        simp only [Bool.not_eq_false', Bool.and_eq_true, decide_eq_true_eq] at q1
        exact hc ⟨rfl, q1.1, q1.2⟩
  · exact ⟨[], rfl, by (repeat' (first | exact True.intro | exact rfl | refine And.intro ?_ ?_))⟩
theorem c_get0 (d : Nat) (s : Sto) (k : List UInt8) (st : Int) (hd : d ≤ 16) (hs : sOk d s) (hc : stCheck d s = true) (H : List (List Blk)) : CallEq X H 9 [pSto s, .d (.int .i64 0), .d (encB k), .d (.int .i64 st)] (ansB (readV ((findA d s.a k).getD []) st)) [] := by
  have hchk := fun H => c_check d s hd hs H
  rw [hc] at hchk
  have hf := fun H => d_find d s.a k hd hs.1 H
  obtain ⟨o1, o2⟩ := fa_ok hs.1 k
  generalize findA d s.a k = o at hf o1 o2 ⊢
  unfold ansV at hf
  have hr := fun H => c_read (o.getD []) st o1 o2 H
  generalize readV (o.getD []) st = r at hr ⊢
  generalize o.getD [] = l at hf hr
  refine callEq_of_body X_ok rfl Try.func9 rfl ?_
  conv => whnf
  refine ⟨_, _, hchk _, True.intro, ?_⟩
  conv => whnf
  refine And.intro (fun _ => ?_) (fun q => absurd q (by decide))
  conv => whnf
  refine ⟨_, _, c_fits 0 _, True.intro, ?_⟩
  conv => whnf
  refine And.intro (fun q => absurd q (by decide)) (fun _ => ?_)
  conv => whnf
  refine ⟨by decide, by decide, ?_⟩
  conv => whnf
  refine ⟨0, rfl, ?_⟩
  conv => whnf
  refine ⟨_, _, hf _, True.intro, ?_⟩
  conv => whnf
  refine ⟨_, _, hr _, True.intro, ?_⟩
  conv => whnf
  exact ⟨[], rfl, by (repeat' (first | exact True.intro | exact rfl | refine And.intro ?_ ?_))⟩
theorem c_get1 (d : Nat) (s : Sto) (k : List UInt8) (st : Int) (hd : d ≤ 16) (hs : sOk d s) (hc : stCheck d s = true) (H : List (List Blk)) : CallEq X H 9 [pSto s, .d (.int .i64 1), .d (encB k), .d (.int .i64 st)] (ansB (readV ((findA d s.b k).getD []) st)) [] := by
  have hchk := fun H => c_check d s hd hs H
  rw [hc] at hchk
  have hf := fun H => d_find d s.b k hd hs.2.1 H
  obtain ⟨o1, o2⟩ := fa_ok hs.2.1 k
  generalize findA d s.b k = o at hf o1 o2 ⊢
  unfold ansV at hf
  have hr := fun H => c_read (o.getD []) st o1 o2 H
  generalize readV (o.getD []) st = r at hr ⊢
  generalize o.getD [] = l at hf hr
  refine callEq_of_body X_ok rfl Try.func9 rfl ?_
  conv => whnf
  refine ⟨_, _, hchk _, True.intro, ?_⟩
  conv => whnf
  refine And.intro (fun _ => ?_) (fun q => absurd q (by decide))
  conv => whnf
  refine ⟨_, _, c_fits 1 _, True.intro, ?_⟩
  conv => whnf
  refine And.intro (fun q => absurd q (by decide)) (fun _ => ?_)
  conv => whnf
  refine ⟨by decide, by decide, ?_⟩
  conv => whnf
  refine ⟨1, rfl, ?_⟩
  conv => whnf
  refine ⟨_, _, hf _, True.intro, ?_⟩
  conv => whnf
  refine ⟨_, _, hr _, True.intro, ?_⟩
  conv => whnf
  exact ⟨[], rfl, by (repeat' (first | exact True.intro | exact rfl | refine And.intro ?_ ?_))⟩
theorem c_get2 (d : Nat) (s : Sto) (k : List UInt8) (st : Int) (hd : d ≤ 16) (hs : sOk d s) (hc : stCheck d s = true) (H : List (List Blk)) : CallEq X H 9 [pSto s, .d (.int .i64 2), .d (encB k), .d (.int .i64 st)] (ansB (readV ((findA d s.c k).getD []) st)) [] := by
  have hchk := fun H => c_check d s hd hs H
  rw [hc] at hchk
  have hf := fun H => d_find d s.c k hd hs.2.2.1 H
  obtain ⟨o1, o2⟩ := fa_ok hs.2.2.1 k
  generalize findA d s.c k = o at hf o1 o2 ⊢
  unfold ansV at hf
  have hr := fun H => c_read (o.getD []) st o1 o2 H
  generalize readV (o.getD []) st = r at hr ⊢
  generalize o.getD [] = l at hf hr
  refine callEq_of_body X_ok rfl Try.func9 rfl ?_
  conv => whnf
  refine ⟨_, _, hchk _, True.intro, ?_⟩
  conv => whnf
  refine And.intro (fun _ => ?_) (fun q => absurd q (by decide))
  conv => whnf
  refine ⟨_, _, c_fits 2 _, True.intro, ?_⟩
  conv => whnf
  refine And.intro (fun q => absurd q (by decide)) (fun _ => ?_)
  conv => whnf
  refine ⟨by decide, by decide, ?_⟩
  conv => whnf
  refine ⟨2, rfl, ?_⟩
  conv => whnf
  refine ⟨_, _, hf _, True.intro, ?_⟩
  conv => whnf
  refine ⟨_, _, hr _, True.intro, ?_⟩
  conv => whnf
  exact ⟨[], rfl, by (repeat' (first | exact True.intro | exact rfl | refine And.intro ?_ ?_))⟩
theorem c_get3 (d : Nat) (s : Sto) (k : List UInt8) (st : Int) (hd : d ≤ 16) (hs : sOk d s) (hc : stCheck d s = true) (H : List (List Blk)) : CallEq X H 9 [pSto s, .d (.int .i64 3), .d (encB k), .d (.int .i64 st)] (ansB (readV ((findA d s.d k).getD []) st)) [] := by
  have hchk := fun H => c_check d s hd hs H
  rw [hc] at hchk
  have hf := fun H => d_find d s.d k hd hs.2.2.2 H
  obtain ⟨o1, o2⟩ := fa_ok hs.2.2.2 k
  generalize findA d s.d k = o at hf o1 o2 ⊢
  unfold ansV at hf
  have hr := fun H => c_read (o.getD []) st o1 o2 H
  generalize readV (o.getD []) st = r at hr ⊢
  generalize o.getD [] = l at hf hr
  refine callEq_of_body X_ok rfl Try.func9 rfl ?_
  conv => whnf
  refine ⟨_, _, hchk _, True.intro, ?_⟩
  conv => whnf
  refine And.intro (fun _ => ?_) (fun q => absurd q (by decide))
  conv => whnf
  refine ⟨_, _, c_fits 3 _, True.intro, ?_⟩
  conv => whnf
  refine And.intro (fun q => absurd q (by decide)) (fun _ => ?_)
  conv => whnf
  refine ⟨by decide, by decide, ?_⟩
  conv => whnf
  refine ⟨3, rfl, ?_⟩
  conv => whnf
  refine ⟨_, _, hf _, True.intro, ?_⟩
  conv => whnf
  refine ⟨_, _, hr _, True.intro, ?_⟩
  conv => whnf
  exact ⟨[], rfl, by (repeat' (first | exact True.intro | exact rfl | refine And.intro ?_ ?_))⟩
theorem c_get (d : Nat) (s : Sto) (t : Int) (k : List UInt8) (st : Int) (hd : d ≤ 16) (hs : sOk d s) (H : List (List Blk)) : CallEq X H 9 [pSto s, .d (.int .i64 t), .d (encB k), .d (.int .i64 st)] (ansB (getA d s t k st)) [] := by
  by_cases h : stCheck d s = true ∧ 0 ≤ t ∧ t < 4
  · have : getA d s t k st = readV ((findA d (sTab s t) k).getD []) st := by unfold getA; rw [if_pos (by simp [h.1, h.2.1, h.2.2])]
    rw [this]
    rcases (show t = 0 ∨ t = 1 ∨ t = 2 ∨ t = 3 by omega) with rfl | rfl | rfl | rfl
    · exact c_get0 d s k st hd hs h.1 H
    · exact c_get1 d s k st hd hs h.1 H
    · exact c_get2 d s k st hd hs h.1 H
    · exact c_get3 d s k st hd hs h.1 H
  · have : getA d s t k st = none := by
      unfold getA; rw [if_neg]
      simp only [Bool.and_eq_true, decide_eq_true_eq]
      exact fun h' => h ⟨h'.1, h'.2.1, h'.2.2⟩
    rw [this]
    exact c_getN d s t k st hd hs h H
/-! ### spans -/
abbrev KP := List UInt8 × List UInt8
def cKP (p : KP) : List DV := [encB p.1, encB p.2]
def scanL (l : List KV) (st : Int) : List KP := l.filterMap fun p => (readV p.2 st).map fun v => (p.1, v)
def scanA (d : Nat) (s : Sto) (x : Span) (st : Int) : List KP := scanL (stIn d s x) st
theorem scanL_snoc {l : List KV} {k : Nat} {p : KV} (h : l[k]? = some p) (st : Int) : scanL (l.take (k + 1)) st = scanL (l.take k) st ++ (match readV p.2 st with | some v => [(p.1, v)] | none => []) := by
  have hk := (List.getElem?_eq_some_iff.1 h).1
  have hp := (List.getElem?_eq_some_iff.1 h).2
  unfold scanL
  rw [List.take_succ_eq_append_getElem hk, List.filterMap_append, hp]
  congr 1
  cases h : readV p.2 st <;> simp [List.filterMap, h]
theorem stIn_iter (d : Nat) (s : Sto) (x : Span) (hd : d ≤ 16) (hs : sOk d s) (hlo : x.lo.length ≤ 1000000) (hhi : x.hi.length ≤ 1000000) : IterEq X 49 (inG s x) [.ptr 0 0 0, .ptr 0 1 0] (inY (stIn d s x)) := by
  unfold stIn
  split
  · rename_i h
    simp only [Bool.and_eq_true, decide_eq_true_eq] at h
    exact i_in d s x hd hs h.1 ⟨h.2.1, h.2.2⟩ hlo hhi
  · rename_i h
    refine i_inN d s x hd hs fun h' => h ?_
    simp only [Bool.and_eq_true, decide_eq_true_eq]
    exact ⟨h'.1, h'.2.1, h'.2.2⟩
theorem stIn_mem {d : Nat} {s : Sto} {x : Span} (hs : sOk d s) : ∀ p ∈ stIn d s x, p.1.length ≤ 1000000 ∧ p.2.length < 1000000 ∧ ∀ v ∈ p.2, v.val.length ≤ 1000000 := fun p hp => by
  unfold stIn inT at hp
  split at hp
  · have hp1 := (List.mem_filter.1 hp).1
    have hp2 : p ∈ allD d (sTab s x.t) := by unfold pairsN at hp1; split at hp1; exact hp1; cases hp1
    obtain ⟨h1, h2, h3⟩ := allD_mem d _ (sTab_ok hs x.t) p hp2
    exact ⟨h1, by omega, h3⟩
  · cases hp
theorem stIn_len {d : Nat} {s : Sto} {x : Span} (hd : d ≤ 16) (hs : sOk d s) : (stIn d s x).length < 4294967296 := by
  unfold stIn inT
  split
  · exact Nat.lt_of_le_of_lt (List.length_filter_le _ _) (pairs_len hd (sTab_ok hs x.t))
  · decide
theorem c_scanR (d : Nat) (s : Sto) (x : Span) (st : Int) (hd : d ≤ 16) (hs : sOk d s) (hlo : x.lo.length ≤ 1000000) (hhi : x.hi.length ≤ 1000000) (H : List (List Blk)) : CallEq X H 11 [pSto s, pSpan x, .d (.int .i64 st)] (.row 0 0 (scanA d s x st).length) [⟨47, 2, (scanA d s x st).map cKP⟩] := by
  have hit := stIn_iter d s x hd hs hlo hhi
  have hmem := stIn_mem (x := x) hs
  have hlen := stIn_len (x := x) hd hs
  unfold scanA
  generalize stIn d s x = L at hit hmem hlen ⊢
  refine callEq_of_body X_ok rfl Try.func11 rfl ?_
  conv => whnf
  refine ⟨_, _, s_in s x _, True.intro, ?_⟩
  conv => whnf
  refine rangeV_of (inY L) [.any, .any, .any, .ptr 0 0 0, .ptr 0 1 0, .ptr 0 2 0, .ptr 0 3 0, .any, .any, .any, .any, .any, .any, .any, .any, .any, .any, .any, .any, .any, .any, .any, .any, .any, .any, .any, .any, .any, .any, .any] (fun k => [.box s.cells, .box [.d (.int .i64 x.t), .d (encB x.lo), .d (encB x.hi), .d (.bool x.op)], .box [.d (.int .i64 st)], .box [.row 0 4 ((scanL (L.take k) st).map cKP).length], .row 47 2 ((scanL (L.take k) st).map cKP)])
    (fun k => True) [0, 1, 2, 3, 6] hit trivial ?_ ?_ ?_
  · refine And.intro rfl (And.intro ?_ ?_)
    all_goals (repeat' (first | exact True.intro | exact rfl | refine And.intro ?_ ?_))
  · rintro k y hy _
    unfold inY at hy
    rw [List.getElem?_map] at hy
    obtain ⟨p, hp, rfl⟩ := Option.map_eq_some_iff.1 hy
    obtain ⟨m1, m2, m3⟩ := hmem p (List.mem_of_getElem? hp)
    have hsn := scanL_snoc hp st
    have hk : k < L.length := (List.getElem?_eq_some_iff.1 hp).1
    have hrl : ((scanL (L.take k) st).map cKP).length ≤ k := by
      rw [List.length_map]
      refine Nat.le_trans (List.length_filterMap_le _ _) ?_
      rw [List.length_take]; omega
    have hrd := fun H => c_read p.2 st m2 m3 H
    cases hr : readV p.2 st with
    | none =>
      rw [hr] at hrd hsn
      dsimp only at hsn
      rw [List.append_nil] at hsn
      rw [hsn]
      conv => whnf
      refine ⟨_, _, hrd _, True.intro, ?_⟩
      conv => whnf
      refine And.intro (fun q => absurd q (by decide)) (fun _ => ?_)
      conv => whnf
      refine ⟨trivial, [0, 1, 2, 3, 4], And.intro rfl (And.intro ?_ ?_)⟩
      all_goals (repeat' (first | exact True.intro | exact rfl | refine And.intro ?_ ?_))
    | some v =>
      rw [hr] at hrd hsn
      dsimp only at hsn
      rw [hsn, List.map_append]
      generalize (scanL (L.take k) st).map cKP = R at hrl ⊢
      conv => whnf
      refine ⟨_, _, hrd _, True.intro, ?_⟩
      conv => whnf
      refine And.intro (fun _ => ?_) (fun q => absurd (show true = false from q) (by decide))
      conv => whnf
      refine ⟨fun y hy => by simp at hy; subst hy; rfl, ?_⟩
      conv => whnf
      refine ⟨rfl, by (first | omega | (dsimp only; omega) | (simp; done) | (simp; omega)), ?_⟩
      conv => whnf
      refine ⟨trivial, [0, 1, 2, 3, 5], And.intro rfl (And.intro ?_ ?_)⟩
      all_goals (repeat' (first | exact True.intro | exact rfl | refine And.intro ?_ ?_))
      all_goals exact congrArg (PV.row 0 5) (show R.length + 1 = (R ++ [cKP (p.1, v)]).length by simp)
  · intro _
    conv => whnf
    have : (inY L).length = L.length := List.length_map ..
    rw [this, List.take_length]
    refine ⟨[4], rfl, ?_⟩
    (repeat' (first | exact True.intro | exact rfl | refine And.intro ?_ ?_))
    show PV.row 0 4 _ = PV.row 0 4 _
    rw [List.length_map]
theorem c_scan (d : Nat) (s : Sto) (x : Span) (st : Int) (hd : d ≤ 16) (hs : sOk d s) (hlo : x.lo.length ≤ 1000000) (hhi : x.hi.length ≤ 1000000) (H : List (List Blk)) : CallEq X H 11 [pSto s, pSpan x, .d (.int .i64 st)] (.d (.sl ((scanA d s x st).map cKP))) [] :=
  (c_scanR d s x st hd hs hlo hhi H).freeze 1 (by
    show PV.d (.sl (((scanA d s x st).map cKP).take (scanA d s x st).length)) = _
    rw [List.take_of_length_le (by simp)])
end Go.Proofs.Ve

/- Versions: own, Install, Vacuum; may a write be. -/
set_option maxRecDepth 100000
set_option maxHeartbeats 8000000
set_option linter.all false
namespace Go.Proofs.Ve
open Go
theorem c_vownR (l : List Ver) (hl : l.length < 1000000) (hv : ∀ x ∈ l, x.val.length ≤ 1000000) (H : List (List Blk)) : CallEq X H 42 [.d (encVs l)] (.row 0 0 l.length) [⟨64, 3, l.map cVer⟩] := by
  have h3 : ∀ x ∈ l.map cVer, x.length = 3 := fun x hx => by simp only [List.mem_map] at hx; obtain ⟨_, _, rfl⟩ := hx; rfl
  have hlen : (l.map cVer).length = l.length := List.length_map ..
  refine callEq_of_body X_ok rfl Try.func42 rfl ?_
  conv => whnf
  refine ⟨rfl, by omega, by (first | omega | (dsimp only; omega) | (simp; done) | (simp; omega)), by omega, ?_⟩
  conv => whnf
  refine ⟨h3, ?_⟩
  conv => whnf
  refine ⟨by simp, by simp, ?_⟩
  conv => whnf
  refine loopV_of (fun i : Nat => ⟨[.any, .any, .any, .row 0 0 (l.map cVer).length, .any, .any, .any, .any, .any, .any, .any, .any, .row 0 0 (l.map cVer).length, .d (.int .i64 (l.map cVer).length), .d (.int .i64 i), .any, .any, .any, .any, .any, .any, .any, .any, .any, .any, .any, .any, .any], [.row 64 3 (l.map cVer)]⟩)
    (fun i => i ≤ l.length) (fun i => l.length - i) 0 [0] (Nat.zero_le _) ?_ ?_
  · refine And.intro rfl (And.intro ?_ ?_)
    all_goals (repeat' (first | exact True.intro | exact rfl | refine And.intro ?_ ?_))
  · intro i hi
    conv => whnf
    refine And.intro (fun q => ?_) (fun q => ?_)
    · conv => whnf
      have hi' : i < l.length := by rw [hlen] at q; simpa using q
      obtain ⟨v, hv1⟩ : ∃ x, l[i]? = some x := ⟨_, List.getElem?_eq_getElem hi'⟩
      have hvl := hv v (List.mem_of_getElem? hv1)
      have hg : (l.map cVer)[((i : Nat) : Int).toNat]? = some (cVer v) := by rw [Int.toNat_natCast, List.getElem?_map, hv1]; rfl
      have hset : (l.map cVer).set ((i : Nat) : Int).toNat (cVer v) = l.map cVer := by rw [Int.toNat_natCast]; exact set_same hv1
      refine ⟨by omega, by omega, ?_⟩
      conv => whnf
      refine ⟨cVer v, hg, ?_⟩
      conv => whnf
      refine ⟨_, _, c103 v.val (by omega) _, True.intro, ?_⟩
      conv => whnf
      refine ⟨by omega, by omega, ?_⟩
      conv => whnf
      refine ⟨cVer v, hg, ?_⟩
      conv => whnf
      intro z hz
      conv => whnf
      rw [wrap_small (by omega) (by omega)] at hz
      subst hz
      refine ⟨i + 1, [0], by omega, by omega, And.intro rfl (And.intro ?_ ?_)⟩
      all_goals (repeat' (first | exact True.intro | exact rfl | refine And.intro ?_ ?_))
      exact hset
    · conv => whnf
      refine ⟨[0], rfl, ?_⟩
      (repeat' (first | exact True.intro | exact rfl | refine And.intro ?_ ?_))
      show PV.row 0 0 _ = PV.row 0 0 _
      rw [hlen]
theorem c_vown (l : List Ver) (hl : l.length < 1000000) (hv : ∀ x ∈ l, x.val.length ≤ 1000000) (H : List (List Blk)) : CallEq X H 42 [.d (encVs l)] (.d (encVs l)) [] :=
  (c_vownR l hl hv H).freeze 1 (by
    show PV.d (.sl ((l.map cVer).take l.length)) = _
    rw [List.take_of_length_le (by simp)]; rfl)
noncomputable def moInst : List (Nat × Tr) := [(5, .cut ((.alt 0 (.alt 1 (.alt 2 (.alt 3 (.alt 4 (.alt 5 (.alt 6 (.alt 7 .fin .none) .none) .none) .none) .none) .none) (.alt 2 (.alt 1 (.alt 3 (.alt 4 (.alt 5 (.alt 6 (.alt 7 .fin .none) .none) .none) .none) .none) (.alt 3 (.alt 1 (.alt 4 (.alt 5 (.alt 6 (.alt 7 .fin .none) .none) .none) .none) .none) .none)) .none)) .none)))]
def lastV (l : List Ver) : Int := match l.getLast? with | some v => v.stamp | none => 0
def chInst (l : List Ver) (x : Ver) : List Ver × Int := if !vsOk l || !vMay x then (l, 1) else if decide ((l.length : Int) > 0) && decide (lastV l ≥ x.stamp) then (l, 50) else (l ++ [x], 0)
theorem c_vinst (l : List Ver) (x : Ver) (hl : l.length < 100000) (hv : ∀ x ∈ l, x.val.length ≤ 1000000) (hx : x.val.length ≤ 1000000) (H : List (List Blk)) : CallEq X H 22 [.d (encVs l), pVer x] (.tuple [.d (encVs (chInst l x).1), .d (.int .i64 (chInst l x).2)]) [] := by
  have hc := fun H => d_vscheck l (by omega) H
  have hm := fun H => d_vmay x H
  have ho := fun H => c_vown l (by omega) hv H
  have ho2 := fun H => c_vown (l ++ [x]) (by simp; omega) (fun y hy => by rcases List.mem_append.1 hy with h | h; exact hv y h; rw [List.mem_singleton.1 h]; exact hx) H
  have hlen : (l.map cVer).length = l.length := List.length_map ..
  have h3 : ∀ y ∈ l.map cVer, y.length = 3 := fun y hy => by simp only [List.mem_map] at hy; obtain ⟨_, _, rfl⟩ := hy; rfl
  have hcl := fun H => d_cloneV (l.map cVer) h3 (by omega) H
  have ho3 : ∀ H, CallEq X H 42 [.d (.sl (((l.map cVer) ++ [cVer x]).take ((l.map cVer).length + 1)))] (.d (encVs (l ++ [x]))) [] := fun H => by
    rw [List.take_of_length_le (by simp)]
    have := ho2 H
    unfold encVs at this ⊢
    rw [List.map_append] at this ⊢
    exact this
  have hr : chInst l x = if !vsOk l || !vMay x then (l, 1) else if decide ((l.length : Int) > 0) && decide (lastV l ≥ x.stamp) then (l, 50) else (l ++ [x], 0) := rfl
  generalize chInst l x = R at hr ⊢
  generalize vsOk l = C at hc hr
  generalize vMay x = M at hm hr
  refine callEq_of_bodyF X_ok false true (mo := moInst) (by kernel_rfl) Try.func22 rfl ?_
  conv => whnf
  refine ⟨_, _, (hc _).md _ _, True.intro, ?_⟩
  conv => whnf
  have bad : (!C || !M) = true → R = (l, 1) := fun h => by rw [hr, if_pos h]
  refine And.intro (fun q => ?_) (fun q => ?_) <;> (conv => whnf)
  · refine ⟨_, _, (hm _).md _ _, True.intro, ?_⟩
    conv => whnf
    refine And.intro (fun q1 => ?_) (fun q1 => ?_) <;> (conv => whnf)
    · obtain rfl := bad (by simp at q1 ⊢; exact .inr q1)
      refine ⟨_, _, (ho _).md _ _, True.intro, ?_⟩
      conv => whnf
      exact ⟨[], rfl, by (repeat' (first | exact True.intro | exact rfl | refine And.intro ?_ ?_))⟩
    · have hCM : (!C || !M) = false := by simp at q q1 ⊢; exact ⟨q, q1⟩
      rw [if_neg (by rw [hCM]; decide)] at hr
      refine And.intro (fun q2 => ?_) (fun q2 => ?_) <;> (conv => whnf)
      · have hpos : 0 < l.length := by rw [hlen] at q2; simpa using q2
        obtain ⟨v, hv1, hv2⟩ : ∃ v, l[((l.length : Int) - 1).toNat]? = some v ∧ lastV l = v.stamp := by
          refine ⟨l[l.length - 1]'(by omega), ?_, ?_⟩
          · rw [show ((l.length : Int) - 1).toNat = l.length - 1 by omega]; exact List.getElem?_eq_getElem (by omega)
          · unfold lastV; rw [List.getLast?_eq_getElem?, List.getElem?_eq_getElem (by omega)]
        rw [hv2] at hr
        have hg : (l.map cVer)[((l.length : Int) - 1).toNat]? = some (cVer v) := by rw [List.getElem?_map, hv1]; rfl
        intro z hz
        conv => whnf
        rw [hlen, wrap_small (by omega) (by omega)] at hz
        subst hz
        refine ⟨by omega, cVer v, hg, rfl, ?_⟩
        conv => whnf
        refine And.intro (fun q3 => ?_) (fun q3 => ?_) <;> (conv => whnf)
        · obtain rfl : R = (l, 50) := by rw [hr, if_pos (by simp only [Bool.and_eq_true, decide_eq_true_eq]; exact ⟨by omega, by simpa using q3⟩)]
          refine ⟨_, _, (ho _).md _ _, True.intro, ?_⟩
          conv => whnf
          exact ⟨[], rfl, by (repeat' (first | exact True.intro | exact rfl | refine And.intro ?_ ?_))⟩
        · obtain rfl : R = (l ++ [x], 0) := by
            rw [hr, if_neg]
            simp only [Bool.and_eq_true, decide_eq_true_eq, not_and]
            intro _
            simpa using q3
          refine cutV_of [.any, .any, .any, .any, .d (encVs (l ++ [x])), .d (.int .i64 0), .any, .any, .any, .any, .any, .any, .any, .any, .any, .any, .any, .any, .any, .any, .any, .any, .any, .any, .any, .any, .any, .any, .any, .any, .any, .any, .any, .any, .any, .any, .any, .any, .any, .any, .any] [] ?_ ?_
          · conv => whnf
            repeat' (first
              | (refine ⟨_, _, (hcl _).md _ _, True.intro, ?_⟩; conv => whnf)
              | (refine ⟨_, _, (ho3 _).md _ _, True.intro, ?_⟩; conv => whnf)
              | (refine ⟨fun y hy => by simp at hy; subst hy; rfl, ?_⟩; conv => whnf)
              | (refine ⟨rfl, by (first | omega | (dsimp only; omega) | (simp; done) | (simp; omega)), ?_⟩; conv => whnf)
              | (refine ⟨[], And.intro rfl (And.intro ?_ ?_)⟩ <;> (repeat' (first | exact True.intro | exact rfl | refine And.intro ?_ ?_)); done)
              | (refine And.intro ?_ ?_ <;> (conv => whnf)))
          · conv => whnf
            exact ⟨[], rfl, by (repeat' (first | exact True.intro | exact rfl | refine And.intro ?_ ?_))⟩
      · have hpos : l.length = 0 := by rw [hlen] at q2; simpa using q2
        obtain rfl : R = (l ++ [x], 0) := by
          rw [hr, if_neg]
          simp only [Bool.and_eq_true, decide_eq_true_eq, not_and]
          intro h; omega
        refine cutV_of [.any, .any, .any, .any, .d (encVs (l ++ [x])), .d (.int .i64 0), .any, .any, .any, .any, .any, .any, .any, .any, .any, .any, .any, .any, .any, .any, .any, .any, .any, .any, .any, .any, .any, .any, .any, .any, .any, .any, .any, .any, .any, .any, .any, .any, .any, .any, .any] [] ?_ ?_
        · conv => whnf
          repeat' (first
            | (refine ⟨_, _, (hcl _).md _ _, True.intro, ?_⟩; conv => whnf)
            | (refine ⟨_, _, (ho3 _).md _ _, True.intro, ?_⟩; conv => whnf)
            | (refine ⟨fun y hy => by simp at hy; subst hy; rfl, ?_⟩; conv => whnf)
            | (refine ⟨rfl, by (first | omega | (dsimp only; omega) | (simp; done) | (simp; omega)), ?_⟩; conv => whnf)
            | (refine ⟨[], And.intro rfl (And.intro ?_ ?_)⟩ <;> (repeat' (first | exact True.intro | exact rfl | refine And.intro ?_ ?_)); done)
            | (refine And.intro ?_ ?_ <;> (conv => whnf)))
        · conv => whnf
          exact ⟨[], rfl, by (repeat' (first | exact True.intro | exact rfl | refine And.intro ?_ ?_))⟩
  · obtain rfl := bad (by simp at q ⊢; exact .inl q)
    refine ⟨_, _, (ho _).md _ _, True.intro, ?_⟩
    conv => whnf
    exact ⟨[], rfl, by (repeat' (first | exact True.intro | exact rfl | refine And.intro ?_ ?_))⟩
def chVac (l : List Ver) (o : Int) : List Ver := if vsOk l then (match l[(beh l o - 1).toNat]? with | some v => if decide (0 < beh l o) && !v.gone then l.drop (beh l o - 1).toNat else l.drop (beh l o).toNat | none => l.drop (beh l o).toNat) else l
theorem c_vvac (l : List Ver) (o : Int) (hl : l.length < 100000) (hv : ∀ x ∈ l, x.val.length ≤ 1000000) (H : List (List Blk)) : CallEq X H 29 [.d (encVs l), .d (.int .i64 o)] (.d (encVs (chVac l o))) [] := by
  have hc := fun H => d_vscheck l (by omega) H
  have ho := fun H => c_vown l (by omega) hv H
  have hlen : (l.map cVer).length = l.length := List.length_map ..
  have hv3 : ∀ x ∈ l.map cVer, x.length = 3 := fun x hx => by simp only [List.mem_map] at hx; obtain ⟨_, _, rfl⟩ := hx; rfl
  have hb := beh_le l o
  have hbh := fun H => c_behind l o (by omega) H
  have hr : chVac l o = if vsOk l then (match l[(beh l o - 1).toNat]? with | some v => if decide (0 < beh l o) && !v.gone then l.drop (beh l o - 1).toNat else l.drop (beh l o).toNat | none => l.drop (beh l o).toNat) else l := rfl
  generalize chVac l o = R at hr ⊢
  generalize beh l o = n at hb hbh hr
  generalize vsOk l = C at hc hr
  have hod : ∀ (k : Nat) H, CallEq X H 42 [.d (.sl ((l.map cVer).drop k))] (.d (encVs (l.drop k))) [] := fun k H => by
    have := c_vown (l.drop k) (by simp; omega) (fun y hy => hv y (List.mem_of_mem_drop hy)) H
    unfold encVs at this ⊢
    rw [List.map_drop] at this ⊢
    exact this
  refine callEq_of_body X_ok rfl Try.func29 rfl ?_
  conv => whnf
  refine ⟨_, _, hc _, True.intro, ?_⟩
  conv => whnf
  refine And.intro (fun q => ?_) (fun q => ?_) <;> (conv => whnf)
  · obtain rfl : C = false := by simpa using q
    obtain rfl : R = l := by rw [hr]; rfl
    refine ⟨_, _, ho _, True.intro, ?_⟩
    conv => whnf
    exact ⟨[], rfl, by (repeat' (first | exact True.intro | exact rfl | refine And.intro ?_ ?_))⟩
  obtain rfl : C = true := by simpa using q
  rw [if_pos rfl] at hr
  refine ⟨_, _, hbh _, True.intro, ?_⟩
  conv => whnf
  refine And.intro (fun q1 => ?_) (fun q1 => ?_) <;> (conv => whnf)
  · have hn : 0 < n := by simpa using q1
    obtain ⟨v, hv1⟩ : ∃ x, l[(n - 1).toNat]? = some x := ⟨_, List.getElem?_eq_getElem (by omega)⟩
    rw [hv1] at hr
    dsimp only at hr
    have hg : (l.map cVer)[(n - 1).toNat]? = some (cVer v) := by rw [List.getElem?_map, hv1]; rfl
    intro z hz
    conv => whnf
    rw [wrap_small (by omega) (by omega)] at hz
    subst hz
    refine ⟨by omega, cVer v, hg, rfl, ?_⟩
    conv => whnf
    refine And.intro (fun q2 => ?_) (fun q2 => ?_) <;> (conv => whnf)
    · have hgone : v.gone = false := by simpa using q2
      rw [hgone, if_pos (by simp [hn])] at hr
      subst hr
      intro z hz
      conv => whnf
      rw [wrap_small (by omega) (by omega)] at hz
      subst hz
      refine ⟨hv3, by omega, by omega, ?_⟩
      conv => whnf
      refine ⟨_, _, hod _ _, True.intro, ?_⟩
      conv => whnf
      exact ⟨[], rfl, by (repeat' (first | exact True.intro | exact rfl | refine And.intro ?_ ?_))⟩
    · have hgone : v.gone = true := by simpa using q2
      rw [hgone, if_neg (by simp)] at hr
      subst hr
      refine ⟨hv3, by omega, by omega, ?_⟩
      conv => whnf
      refine ⟨_, _, hod _ _, True.intro, ?_⟩
      conv => whnf
      exact ⟨[], rfl, by (repeat' (first | exact True.intro | exact rfl | refine And.intro ?_ ?_))⟩
  · have hn : ¬ 0 < n := by simpa using q1
    have hn0 : n = 0 := by omega
    subst hn0
    have hr0 : R = l.drop 0 := by
      rw [hr]
      split
      · rw [if_neg (by simp)]; rfl
      · rfl
    subst hr0
    refine ⟨hv3, by omega, by omega, ?_⟩
    conv => whnf
    refine ⟨_, _, hod _ _, True.intro, ?_⟩
    conv => whnf
    exact ⟨[], rfl, by (repeat' (first | exact True.intro | exact rfl | refine And.intro ?_ ?_))⟩
/-! ### writes -/
structure Wr where
  t : Int
  key : List UInt8
  gone : Bool
  val : List UInt8
def cWr (w : Wr) : List DV := [.int .i64 w.t, encB w.key, .bool w.gone, encB w.val]
def pWr (w : Wr) : PV := .agg [.d (.int .i64 w.t), .d (encB w.key), .d (.bool w.gone), .d (encB w.val)]
def wMay (w : Wr) : Bool := (((decide (w.t ≥ 0) && decide (w.t < 4)) && decide ((w.key.length : Int) ≤ 16)) && decide ((w.val.length : Int) ≤ 32)) && (!w.gone || (w.val.length : Int) == 0)
theorem c_wmay (w : Wr) (H : List (List Blk)) : CallEq X H 18 [pWr w] (.d (.bool (wMay w))) [] := by
  have h := fun H => c_fits w.t H
  unfold wMay
  generalize (decide (w.t ≥ 0) && decide (w.t < 4)) = b at h ⊢
  refine callEq_of_body X_ok rfl Try.func18 rfl ?_
  conv => whnf
  repeat' (first
    | (refine And.intro (fun h_ => ?_) (fun h_ => ?_) <;> (conv => whnf))
    | (refine ⟨_, _, h _, (by first | exact True.intro | exact And.intro rfl flat_nil), ?_⟩; conv => whnf)
    | (intro z_ hz_; conv => whnf)
    | (refine ⟨[], rfl, ?_, True.intro⟩; (conv => whnf); (first | done | (simp_all only [refP, Bool.not_true, Bool.not_false, Bool.true_and, Bool.false_and, Bool.and_true, Bool.and_false, Bool.true_or, Bool.false_or, Bool.or_true, Bool.or_false, Bool.not_not, Bool.not_eq_true', Bool.not_eq_false', if_true, if_false, Bool.false_eq_true, Bool.true_eq_false, List.length_map]; done)))
    | fail)
theorem c_wbad (w : Wr) (H : List (List Blk)) : CallEq X H 17 [pWr w] (.d (.bool (!wMay w))) [] := by
  refine callEq_of_body X_ok rfl Try.func17 rfl ?_
  conv => whnf
  repeat' (first
    | (refine And.intro (fun h_ => ?_) (fun h_ => ?_) <;> (conv => whnf))
    | (refine ⟨_, _, c_wmay w _, (by first | exact True.intro | exact And.intro rfl flat_nil), ?_⟩; conv => whnf)
    | (intro z_ hz_; conv => whnf)
    | (refine ⟨[], rfl, ?_, True.intro⟩; (conv => whnf); (first | done | (simp_all only [refP, Bool.not_true, Bool.not_false, Bool.true_and, Bool.false_and, Bool.and_true, Bool.and_false, Bool.true_or, Bool.false_or, Bool.or_true, Bool.or_false, Bool.not_not, Bool.not_eq_true', Bool.not_eq_false', if_true, if_false, Bool.false_eq_true, Bool.true_eq_false, List.length_map]; done)))
    | fail)
theorem i_wbad (p : Wr → Bool)  (xs : List Wr) (H : List (List Blk)) (hlen : xs.length < 1000000) (hp : ∀ x, x ∈ xs → ∀ T, CallEq X (T :: H) 17 [pWr x] (.d (.bool (p x))) []) :
    CallEq X H 35 [.d (.sl (xs.map cWr)), .func (.func 17) [] []] (.d (.int .i64 (idxOf p xs 0))) [] := by
  refine callEq_of_body X_ok rfl Try.func35 rfl ?_
  conv => whnf
  refine loopV_of (fun k : Nat => ⟨[.d (.sl (xs.map cWr)), .func (.func 17) [] [], .any, .any, .any, .any, .any, .d (.int .i64 (xs.map cWr).length), .d (.int .i64 k), .any, .any, .any, .any, .any, .any, .any, .any, .any, .any], []⟩) (fun k => k ≤ xs.length ∧ idxOf p xs 0 = idxOf p (xs.drop k) k) (fun k => xs.length - k) 0 [] ⟨Nat.zero_le _, by simp⟩ ?_ ?_
  · refine And.intro rfl (And.intro ?_ True.intro)
    repeat' (first | exact True.intro | exact rfl | refine And.intro ?_ ?_)
  · rintro k ⟨hk, hidx⟩
    conv => whnf
    refine And.intro (fun h_ => ?_) (fun h_ => ?_)
    · conv => whnf
      have hk' : k < xs.length := by simpa using h_
      obtain ⟨x, hx⟩ : ∃ x, xs[k]? = some x := ⟨_, List.getElem?_eq_getElem hk'⟩
      have hst := idxOf_step (p := p) hx
      refine ⟨by omega, cWr x, by simp [hx], rfl, ?_⟩
      conv => whnf
      refine ⟨_, _, hp x (List.mem_of_getElem? hx) _, True.intro, ?_⟩
      conv => whnf
      refine And.intro (fun h1 => ?_) (fun h1 => ?_)
      · conv => whnf
        refine ⟨[], rfl, ?_, True.intro⟩
        show DV.int .i64 (k : Int) = .int .i64 (idxOf p xs 0)
        rw [hidx, hst, h1]; rfl
      · conv => whnf
        intro z hz
        conv => whnf
        rw [wrap_small (by omega) (by omega)] at hz
        subst hz
        refine ⟨k + 1, [], ⟨by omega, ?_⟩, by omega, And.intro rfl (And.intro ?_ True.intro)⟩
        · rw [hidx, hst, h1]; rfl
        · repeat' (first | exact True.intro | exact rfl | refine And.intro ?_ ?_)
    · conv => whnf
      have hk' : k = xs.length := by simp at h_; omega
      refine ⟨[], rfl, ?_, True.intro⟩
      show DV.int .i64 (-1) = .int .i64 (idxOf p xs 0)
      rw [hidx, hk', List.drop_length]; rfl
theorem c_anyW (l : List Wr) (hl : l.length < 1000000) (H : List (List Blk)) : CallEq X H 19 [.d (.sl (l.map cWr)), .func (.func 17) [] []] (.d (.bool (l.any fun w => !wMay w))) [] := by
  rw [← idxOf_ge _ l 0 (Int.le_refl _)]
  have h1 := fun H => i_wbad (fun w => !wMay w) l H hl (fun x hx T => c_wbad x _)
  refine callEq_of_body X_ok rfl Try.func19 rfl ?_
  conv => whnf
  repeat' (first
    | (refine And.intro (fun h_ => ?_) (fun h_ => ?_) <;> (conv => whnf))
    | (refine ⟨_, _, h1 _, (by first | exact True.intro | exact And.intro rfl flat_nil), ?_⟩; conv => whnf)
    | (intro z_ hz_; conv => whnf)
    | (refine ⟨[], rfl, ?_, True.intro⟩; (conv => whnf); (first | done | (simp_all only [refP, Bool.not_true, Bool.not_false, Bool.true_and, Bool.false_and, Bool.and_true, Bool.and_false, Bool.true_or, Bool.false_or, Bool.or_true, Bool.or_false, Bool.not_not, Bool.not_eq_true', Bool.not_eq_false', if_true, if_false, Bool.false_eq_true, Bool.true_eq_false, List.length_map]; done)))
    | fail)
end Go.Proofs.Ve

/- Put of a key that is there, Delete of the only key: at leaves; all as plain data. -/
set_option maxRecDepth 100000
set_option maxHeartbeats 8000000
set_option linter.all false
namespace Go.Proofs.Ve
open Go
theorem d_leafG (a b : DV) (H : List (List Blk)) : CallEq X H 39 [.agg [.d a, .d b, .d (.sl [])]] (.d (.bool ((([] : List (List DV)).length : Int) == 0))) [] := by
  refine callEq_of_body X_ok rfl Try.func39 rfl ?_
  conv => whnf
  repeat' (first
    | (refine And.intro (fun h_ => ?_) (fun h_ => ?_) <;> (conv => whnf))
    | (intro z_ hz_; conv => whnf)
    | (refine ⟨[], rfl, ?_, True.intro⟩; (conv => whnf); (first | done | (simp_all only [refP, Bool.not_true, Bool.not_false, Bool.true_and, Bool.false_and, Bool.and_true, Bool.and_false, Bool.true_or, Bool.false_or, Bool.or_true, Bool.or_false, Bool.not_not, Bool.not_eq_true', Bool.not_eq_false', if_true, if_false, Bool.false_eq_true, Bool.true_eq_false, List.length_map]; done)))
    | fail)
theorem d_putX (ks : List (List UInt8)) (cs : List (List Ver)) (k : List UInt8) (l : List Ver) (h1 : ks.length < 100000) (h2 : cs.length = ks.length) (hyes : bsIs ks k = true) (H : List (List Blk)) :
    CallEqG X H 46 [⟨30, 1, rowK ks⟩, ⟨58, 1, rowC cs⟩, ⟨26, 3, []⟩] [.agg [.row 0 0 ks.length, .row 0 1 cs.length, .row 0 2 0], .d (encB k), .d (encVs l)] [none, none, none]
      (.agg [.row 0 0 ks.length, .row 0 1 cs.length, .row 0 2 0]) [⟨30, 1, rowK ks⟩, ⟨58, 1, (rowC cs).set (bs ks k) [encVs l]⟩, ⟨26, 3, []⟩] := by
  have l1 : (rowK ks).length = ks.length := List.length_map ..
  have l2 : (rowC cs).length = cs.length := List.length_map ..
  have hp := fun H => d_place (.mk ks cs []) k (by show ks.length < 1000000; omega) H
  have hlt : bs ks k < cs.length := by rw [h2]; exact bsIs_lt hyes
  obtain ⟨c, hc⟩ : ∃ c, cs[bs ks k]? = some c := ⟨_, List.getElem?_eq_getElem hlt⟩
  have hg : (rowC cs)[bs ks k]? = some [encVs c] := by unfold rowC; rw [List.getElem?_map, hc]; rfl
  rw [show Node.keys (.mk ks cs []) = ks from rfl, hyes] at hp
  generalize bs ks k = i at hp hlt hg ⊢
  have hp : ∀ H, CallEq X H 37 [.agg [.d (.sl ((rowK ks).take ks.length)), .d (.sl ((rowC cs).take cs.length)), .d (.sl (List.take 0 []))], .d (encB k)] (.tuple [.d (.int .i64 i), .d (.bool true)]) [] := fun H => by
    rw [List.take_of_length_le (Nat.le_of_eq l1), List.take_of_length_le (Nat.le_of_eq l2)]; exact hp H
  generalize rowK ks = xs at l1 hp ⊢
  generalize rowC cs = ys at l2 hp hg ⊢
  generalize ks.length = n at l1 h1 h2 hp ⊢
  generalize cs.length = m at l2 h2 hp hlt ⊢
  refine callEqG_of_bodyM X_ok (mo := mo50) (by kernel_rfl) Try.func46 rfl ?_
  conv => whnf
  refine ⟨_, _, hp _, And.intro rfl flat_nil, ?_⟩
  conv => whnf
  refine And.intro (fun q => ?_) (fun q => ?_)
  rotate_left
  · exact absurd q (by decide)
  conv => whnf
  refine ⟨by omega, by omega, ?_⟩
  conv => whnf
  refine ⟨[encVs c], by rw [Int.toNat_natCast]; exact hg, ?_⟩
  conv => whnf
  refine ⟨[0, 1, 2], rfl, ?_⟩
  (repeat' (first | exact True.intro | exact rfl | refine And.intro ?_ ?_))
theorem d_PutX (ks : List (List UInt8)) (cs : List (List Ver)) (k : List UInt8) (l : List Ver) (hn : nOk 1 (.mk ks cs [])) (h2 : cs.length = ks.length) (h3 : ks.length < 3) (hk : k.length ≤ 1000000) (hl : l.length < 1000000) (hlv : ∀ x ∈ l, x.val.length ≤ 1000000)
    (hok : putOk 1 (.mk ks cs []) k l = true) (hyes : bsIs ks k = true) (H : List (List Blk)) :
    CallEq X H 24 [pNode (.mk ks cs []), .d (encB k), .d (encVs l)] (.tuple [.agg [.row 0 0 ks.length, .row 0 1 cs.length, .row 0 2 0], .d (.int .i64 0)]) [⟨30, 1, rowK ks⟩, ⟨58, 1, (rowC cs).set (bs ks k) [encVs l]⟩, ⟨26, 3, []⟩] := by
  have b1 := nOk_keys hn
  have b2 := nOk_chains hn
  have hchk := fun H => d_check 1 (.mk ks cs []) (by decide) hn H
  have hown := fun H => d_ownL ks cs b1 b2 (nOk_key hn) (nOk_chain hn) H
  have hput := fun H => d_putX ks cs k l b1 h2 hyes H
  have hv := fun H => d_vscheck l hl H
  have hvs := fun H => d_vers l hl hlv H
  simp only [putOk, Bool.and_eq_true, decide_eq_true_eq, Bool.not_eq_true'] at hok
  obtain ⟨o1, o2, o3, o4⟩ := hok
  rw [o1] at hchk
  rw [o4] at hv
  have e1 : ((k.map fun x => [DV.int .u8 (x.toNat : Int)]).length : Int) = k.length := by rw [List.length_map]
  have e2 : ((l.map cVer).length : Int) = l.length := by rw [List.length_map]
  refine callEq_of_body X_ok rfl Try.func24 rfl ?_
  conv => whnf
  refine ⟨_, _, hchk _, True.intro, ?_⟩
  conv => whnf
  refine And.intro (fun q => ?_) (fun q => ?_)
  rotate_left
  · exact absurd q (by decide)
  conv => whnf
  refine And.intro (fun q => ?_) (fun q => ?_)
  rotate_left
  · exfalso
    have q := of_decide_eq_true q
    rw [e1] at q; omega
  conv => whnf
  refine And.intro (fun q => ?_) (fun q => ?_)
  rotate_left
  · exfalso
    rw [e2, o3] at q; cases q
  conv => whnf
  refine ⟨_, _, hv _, True.intro, ?_⟩
  conv => whnf
  refine And.intro (fun q => ?_) (fun q => ?_)
  · exact absurd q (by decide)
  conv => whnf
  refine ⟨_, _, hown _, True.intro, ?_⟩
  conv => whnf
  refine And.intro (fun q => ?_) (fun q => ?_)
  · exfalso
    have : (ks.length : Int) = 3 := by simpa using q
    omega
  conv => whnf
  refine ⟨_, _, c103 k (by omega) _, True.intro, ?_⟩
  conv => whnf
  refine ⟨_, _, hvs _, True.intro, ?_⟩
  conv => whnf
  refine ⟨_, _, _, hput _, ?_⟩
  conv => whnf
  refine ⟨[6, 7, 8], rfl, ?_⟩
  (repeat' (first | exact True.intro | exact rfl | refine And.intro ?_ ?_))
theorem d_Delete1 (ks : List (List UInt8)) (cs : List (List Ver)) (k : List UInt8) (hn : nOk 1 (.mk ks cs [])) (h2 : cs.length = ks.length) (h3 : ks.length = 1) (hk : k.length ≤ 1000000)
    (hok : checkN 1 (.mk ks cs []) = true) (hyes : bsIs ks k = true) (H : List (List Blk)) :
    CallEq X H 30 [pNode (.mk ks cs []), .d (encB k)] (.tuple [.agg [.row 0 0 (ks.length - 1), .row 0 1 (cs.length - 1), .row 0 2 0], .d (.int .i64 0)])
      [⟨30, 1, (rowK ks).take (bs ks k) ++ (rowK ks).drop (bs ks k + 1) ++ [[.sl []]]⟩, ⟨58, 1, (rowC cs).take (bs ks k) ++ (rowC cs).drop (bs ks k + 1) ++ [[.sl []]]⟩, ⟨26, 3, []⟩] := by
  have b1 := nOk_keys hn
  have b2 := nOk_chains hn
  have hchk := fun H => d_check 1 (.mk ks cs []) (by decide) hn H
  have hown := fun H => d_ownL ks cs b1 b2 (nOk_key hn) (nOk_chain hn) H
  have hrem := fun H => d_removeL ks cs k b1 h2 hyes H
  have hlt := bsIs_lt hyes
  have hfind := fun H => d_find 1 (.mk ks cs []) k (by decide) hn H
  obtain ⟨c, hc⟩ : ∃ c, findA 1 (.mk ks cs []) k = some c := by
    obtain ⟨c, hc⟩ : ∃ c, cs[bs ks k]? = some c := ⟨_, List.getElem?_eq_getElem (by omega)⟩
    exact ⟨c, by unfold findA; rw [if_pos hok]; unfold findN; rw [if_pos (show bsIs (Node.keys (.mk ks cs [])) k = true from hyes)]; exact hc⟩
  rw [hc] at hfind
  rw [hok] at hchk
  unfold ansV at hfind
  refine callEq_of_body X_ok rfl Try.func30 rfl ?_
  conv => whnf
  refine ⟨_, _, hchk _, True.intro, ?_⟩
  conv => whnf
  refine And.intro (fun q => ?_) (fun q => ?_)
  · exact absurd q (by decide)
  conv => whnf
  refine ⟨_, _, hfind _, True.intro, ?_⟩
  conv => whnf
  refine And.intro (fun q => ?_) (fun q => ?_)
  · exact absurd q Bool.false_ne_true
  conv => whnf
  refine ⟨_, _, hown _, True.intro, ?_⟩
  conv => whnf
  refine ⟨_, _, c103 k (by omega) _, True.intro, ?_⟩
  conv => whnf
  refine ⟨_, _, _, hrem _, ?_⟩
  conv => whnf
  refine And.intro (fun q => ?_) (fun q => ?_)
  rotate_left
  · exfalso
    have : ¬ ((ks.length - 1 : Nat) : Int) = 0 := by simpa using q
    omega
  conv => whnf
  refine ⟨_, _, d_leafG _ _ _, And.intro rfl flat_nil, ?_⟩
  conv => whnf
  refine And.intro (fun q => ?_) (fun q => ?_)
  · exact absurd q (by decide)
  conv => whnf
  refine ⟨[5, 6, 7], rfl, ?_⟩
  (repeat' (first | exact True.intro | exact rfl | refine And.intro ?_ ?_))
/-! ### as plain data -/
def insL {α : Type} (l : List α) (i : Nat) (x : α) : List α := l.take i ++ [x] ++ l.drop i
theorem rowK_ins (ks : List (List UInt8)) (i : Nat) (k : List UInt8) : (rowK ks).take i ++ [[encB k]] ++ (rowK ks).drop i = rowK (insL ks i k) := by
  unfold rowK insL; simp
theorem rowC_ins (cs : List (List Ver)) (i : Nat) (c : List Ver) : (rowC cs).take i ++ [[encVs c]] ++ (rowC cs).drop i = rowC (insL cs i c) := by
  unfold rowC insL; simp
theorem insL_len {α : Type} (l : List α) (i : Nat) (x : α) : (insL l i x).length = l.length + 1 := by unfold insL; simp; omega
theorem rowK_len (ks : List (List UInt8)) : (rowK ks).length = ks.length := List.length_map ..
theorem rowC_len (cs : List (List Ver)) : (rowC cs).length = cs.length := List.length_map ..
theorem p_new (ks : List (List UInt8)) (cs : List (List Ver)) (k : List UInt8) (l : List Ver) (hn : nOk 1 (.mk ks cs [])) (h2 : cs.length = ks.length) (h3 : ks.length < 3) (hk : k.length ≤ 1000000) (hl : l.length < 1000000) (hlv : ∀ x ∈ l, x.val.length ≤ 1000000)
    (hok : putOk 1 (.mk ks cs []) k l = true) (hno : bsIs ks k = false) (H : List (List Blk)) :
    CallEq X H 24 [pNode (.mk ks cs []), .d (encB k), .d (encVs l)] (.tuple [pNode (.mk (insL ks (bs ks k) k) (insL cs (bs ks k) l) []), .d (.int .i64 0)]) [] :=
  (d_PutL ks cs k l hn h2 h3 hk hl hlv hok hno H).freeze 3 (by
    unfold putRK putRC
    rw [rowK_ins, rowC_ins]
    show PV.tuple [.agg [.d (.sl ((rowK (insL ks (bs ks k) k)).take (ks.length + 1))), .d (.sl ((rowC (insL cs (bs ks k) l)).take (cs.length + 1))), .d (.sl (List.take 0 []))], _] = _
    rw [List.take_of_length_le (by rw [rowK_len, insL_len]; exact Nat.le_refl _), List.take_of_length_le (by rw [rowC_len, insL_len]; exact Nat.le_refl _)]
    rfl)
theorem p_old (ks : List (List UInt8)) (cs : List (List Ver)) (k : List UInt8) (l : List Ver) (hn : nOk 1 (.mk ks cs [])) (h2 : cs.length = ks.length) (h3 : ks.length < 3) (hk : k.length ≤ 1000000) (hl : l.length < 1000000) (hlv : ∀ x ∈ l, x.val.length ≤ 1000000)
    (hok : putOk 1 (.mk ks cs []) k l = true) (hyes : bsIs ks k = true) (H : List (List Blk)) :
    CallEq X H 24 [pNode (.mk ks cs []), .d (encB k), .d (encVs l)] (.tuple [pNode (.mk ks (cs.set (bs ks k) l) []), .d (.int .i64 0)]) [] :=
  (d_PutX ks cs k l hn h2 h3 hk hl hlv hok hyes H).freeze 3 (by
    show PV.tuple [.agg [.d (.sl ((rowK ks).take ks.length)), .d (.sl (((rowC cs).set (bs ks k) [encVs l]).take cs.length)), .d (.sl (List.take 0 []))], _] = _
    rw [show (rowC cs).set (bs ks k) [encVs l] = rowC (cs.set (bs ks k) l) by unfold rowC; rw [List.map_set]]
    rw [List.take_of_length_le (Nat.le_of_eq (rowK_len ks)), List.take_of_length_le (by rw [rowC_len, List.length_set]; exact Nat.le_refl _)]
    rfl)
theorem p_gone (k : List UInt8) (c : List Ver) (key : List UInt8) (hn : nOk 1 (.mk [k] [c] [])) (hk : key.length ≤ 1000000) (hok : checkN 1 (.mk [k] [c] []) = true) (hyes : bsIs [k] key = true) (H : List (List Blk)) :
    CallEq X H 30 [pNode (.mk [k] [c] []), .d (encB key)] (.tuple [pNode (.mk [] [] []), .d (.int .i64 0)]) [] :=
  (d_Delete1 [k] [c] key hn rfl rfl hk hok hyes H).freeze 3 (by
    rfl)
end Go.Proofs.Ve

/- Stores: Newer; what awake installs. -/
set_option maxRecDepth 100000
set_option maxHeartbeats 8000000
set_option linter.all false
namespace Go.Proofs.Ve
open Go
def newerA (d : Nat) (s : Sto) (x : Span) (st : Int) : Bool := (stIn d s x).any fun p => newV p.2 st
theorem c_snewer (d : Nat) (s : Sto) (x : Span) (st : Int) (hd : d ≤ 16) (hs : sOk d s) (hlo : x.lo.length ≤ 1000000) (hhi : x.hi.length ≤ 1000000) (H : List (List Blk)) : CallEq X H 14 [pSto s, pSpan x, .d (.int .i64 st)] (.d (.bool (newerA d s x st))) [] := by
  have hit := stIn_iter d s x hd hs hlo hhi
  have hmem := stIn_mem (x := x) hs
  unfold newerA
  generalize stIn d s x = L at hit hmem ⊢
  refine callEq_of_body X_ok rfl Try.func14 rfl ?_
  conv => whnf
  refine ⟨_, _, s_in s x _, True.intro, ?_⟩
  conv => whnf
  refine rangeV_of (inY L) [.any, .any, .any, .ptr 0 0 0, .ptr 0 1 0, .ptr 0 2 0, .ptr 0 3 0, .any, .any, .any, .any, .any, .any, .any, .any, .any, .any] (fun k => [.box s.cells, .box [.d (.int .i64 x.t), .d (encB x.lo), .d (encB x.hi), .d (.bool x.op)], .box [.d (.int .i64 st)], .box [.kb false]])
    (fun k => (L.take k).any (fun p => newV p.2 st) = false) [0, 1, 2, 3] hit rfl ?_ ?_ ?_
  · refine And.intro rfl (And.intro ?_ ?_)
    all_goals (repeat' (first | exact True.intro | exact rfl | refine And.intro ?_ ?_))
  · rintro k y hy hI
    unfold inY at hy
    rw [List.getElem?_map] at hy
    obtain ⟨p, hp, rfl⟩ := Option.map_eq_some_iff.1 hy
    obtain ⟨m1, m2, m3⟩ := hmem p (List.mem_of_getElem? hp)
    have hk : k < L.length := (List.getElem?_eq_some_iff.1 hp).1
    have hpe := (List.getElem?_eq_some_iff.1 hp).2
    have hn := fun H => c_newer p.2 st m2 H
    conv => whnf
    refine ⟨_, _, hn _, True.intro, ?_⟩
    conv => whnf
    refine And.intro (fun q => ?_) (fun q => ?_) <;> (conv => whnf)
    · have : (L.any fun p => newV p.2 st) = true := List.any_eq_true.2 ⟨p, List.mem_of_getElem? hp, q⟩
      rw [this]
      exact ⟨[], rfl, by (repeat' (first | exact True.intro | exact rfl | refine And.intro ?_ ?_))⟩
    · refine ⟨?_, [0, 1, 2, 3], And.intro rfl (And.intro ?_ ?_)⟩
      · show (L.take (k + 1)).any _ = false
        rw [List.take_succ_eq_append_getElem hk, List.any_append, hI, hpe]
        simp [q]
      all_goals (repeat' (first | exact True.intro | exact rfl | refine And.intro ?_ ?_))
  · intro hI
    have : (inY L).length = L.length := List.length_map ..
    rw [this, List.take_length] at hI
    rw [hI]
    conv => whnf
    exact ⟨[], rfl, by (repeat' (first | exact True.intro | exact rfl | refine And.intro ?_ ?_))⟩
/-! ### awake's -/
def vA : Ver := ⟨3, false, [118]⟩
def vB : Ver := ⟨3, false, []⟩
def vG : Ver := ⟨5, true, []⟩
def n0 : Node := .mk [] [] []
def nA1 : Node := .mk [[97]] [[vA]] []
def nA2 : Node := .mk [[97]] [[vA, vG]] []
def nB1 : Node := .mk [[98]] [[vB]] []
def s0 : Sto := ⟨n0, n0, n0, n0⟩
def sA0 : Sto := ⟨nA1, n0, n0, n0⟩
def sA : Sto := ⟨nA1, nB1, n0, n0⟩
def sB : Sto := ⟨nA2, nB1, n0, n0⟩
def sV : Sto := ⟨n0, nB1, n0, n0⟩
theorem ok0 : nOk 1 n0 := smallN_ok 1 _ (by decide)
theorem okA1 : nOk 1 nA1 := smallN_ok 1 _ (by decide)
theorem okA2 : nOk 1 nA2 := smallN_ok 1 _ (by decide)
theorem okB1 : nOk 1 nB1 := smallN_ok 1 _ (by decide)
def cmB (l : List (List UInt8)) (k : List UInt8) : Nat := bsF (fun x => cm x k) l l.length 0 l.length
theorem bs_cm (l : List (List UInt8)) (k : List UInt8) : bs l k = cmB l k := by
  unfold bs cmB
  congr 1
  funext x; exact cmpB_eq x k
def cmIs (l : List (List UInt8)) (k : List UInt8) : Bool := decide (cmB l k < l.length) && decide (cm (l.getD (cmB l k) []) k = 0)
theorem bsIs_cm (l : List (List UInt8)) (k : List UInt8) : bsIs l k = cmIs l k := by
  unfold bsIs cmIs
  rw [bs_cm, cmpB_eq, List.length_map]
  congr 1
  · rw [Bool.eq_iff_iff]; simp
theorem keyBad_cm (o : Option (List UInt8)) (p : KV) : keyBad o p = ((decide ((p.1.length : Int) > 16) || ((p.2.length : Int) == 0)) || !vsOk p.2 || (match o with | none => false | some a => decide (cm a p.1 ≥ 0))) := by
  unfold keyBad
  cases o with
  | none => rfl
  | some a => simp only [cmpB_eq]
theorem chk0 : checkN 1 n0 = true := by decide
theorem chk1 (k : List UInt8) (c : List Ver) (h1 : ((decide ((k.length : Int) > 16) || ((c.length : Int) == 0)) || !vsOk c) = false) : checkN 1 (.mk [k] [c] []) = true := by
  unfold checkN
  have h0 : (deepN (.mk [k] [c] []) 0 == 0) = false := rfl
  rw [if_neg (by rw [h0]; decide)]
  show chkL none [(k, c)] = true
  simp only [chkL, keyBad_cm, h1]
  rfl
theorem chkA1 : checkN 1 nA1 = true := chk1 _ _ (by decide)
theorem chkA2 : checkN 1 nA2 = true := chk1 _ _ (by decide)
theorem chkB1 : checkN 1 nB1 = true := chk1 _ _ (by decide)
theorem badT0 : badT 1 n0 = false := by unfold badT keysN; rw [chk0]; decide
theorem badT1 {k : List UInt8} {c : List Ver} (h : checkN 1 (.mk [k] [c] []) = true) : badT 1 (.mk [k] [c] []) = false := by
  unfold badT keysN
  rw [h, if_pos rfl]
  rfl
theorem st0 : stCheck 1 s0 = true := by unfold stCheck s0 Sto.list; simp only [List.any_cons, List.any_nil, badT0]; rfl
theorem stA : stCheck 1 sA = true := by unfold stCheck sA Sto.list; simp only [List.any_cons, List.any_nil, badT0, show badT 1 nA1 = false from badT1 chkA1, show badT 1 nB1 = false from badT1 chkB1]; rfl
theorem stB : stCheck 1 sB = true := by unfold stCheck sB Sto.list; simp only [List.any_cons, List.any_nil, badT0, show badT 1 nA2 = false from badT1 chkA2, show badT 1 nB1 = false from badT1 chkB1]; rfl
theorem stV : stCheck 1 sV = true := by unfold stCheck sV Sto.list; simp only [List.any_cons, List.any_nil, badT0, show badT 1 nB1 = false from badT1 chkB1]; rfl
theorem sok0 : sOk 1 s0 := ⟨ok0, ok0, ok0, ok0⟩
theorem sokA : sOk 1 sA := ⟨okA1, okB1, ok0, ok0⟩
theorem sokB : sOk 1 sB := ⟨okA2, okB1, ok0, ok0⟩
theorem sokV : sOk 1 sV := ⟨ok0, okB1, ok0, ok0⟩
theorem fi0 (k : List UInt8) : findA 1 n0 k = none := by unfold findA; rw [if_pos chk0]; unfold findN; rw [bsIs_cm]; rfl
theorem fi1 {k : List UInt8} {c : List Ver} (h : checkN 1 (.mk [k] [c] []) = true) : findA 1 (.mk [k] [c] []) k = some c := by
  unfold findA findN
  rw [if_pos h, bsIs_cm, bs_cm]
  have h1 : cmB [k] k = 0 := by
    show (if 0 < 1 then (if cm ([k].getD (half 0 1) []) k < 0 then bsF _ [k] 0 (half 0 1 + 1) 1 else bsF _ [k] 0 0 (half 0 1)) else 0) = 0
    rw [if_pos (by decide), if_neg (by show ¬ cm k k < 0; rw [cm_self]; decide)]
    rfl
  have h2 : cmIs (Node.keys (.mk [k] [c] [])) k = true := by
    show (decide (cmB [k] k < 1) && decide (cm ([k].getD (cmB [k] k) []) k = 0)) = true
    rw [h1]
    show (true && decide (cm k k = 0)) = true
    rw [cm_self]; rfl
  rw [h2, if_pos rfl]
  show [c][cmB [k] k]? = some c
  rw [h1]; rfl
end Go.Proofs.Ve

/- What awake installs. -/
set_option maxRecDepth 100000
set_option maxHeartbeats 20000000
set_option linter.all false
namespace Go.Proofs.Ve
open Go
def wA : Wr := ⟨0, [97], false, [118]⟩
def wB : Wr := ⟨1, [98], false, []⟩
def wG : Wr := ⟨0, [97], true, []⟩
def wC : Wr := ⟨0, [97], false, []⟩
def w4 : Wr := ⟨4, [], false, []⟩
def Lchk (s : Sto) (b : Bool) : Prop := ∀ H, CallEq X H 15 [pSto s] (.d (.bool b)) []
theorem k0 : Lchk s0 true := fun H => st0 ▸ c_check 1 s0 (by decide) sok0 H
theorem kA : Lchk sA true := fun H => stA ▸ c_check 1 sA (by decide) sokA H
theorem kB : Lchk sB true := fun H => stB ▸ c_check 1 sB (by decide) sokB H
theorem o0 (H : List (List Blk)) : CallEq X H 20 [pSto s0] (pSto s0) [] := s_own 1 s0 sok0 H
theorem oA (H : List (List Blk)) : CallEq X H 20 [pSto sA] (pSto sA) [] := s_own 1 sA sokA H
theorem oB (H : List (List Blk)) : CallEq X H 20 [pSto sB] (pSto sB) [] := s_own 1 sB sokB H
theorem an (l : List Wr) (b : Bool) (h : (l.any fun w => !wMay w) = b) (hl : l.length < 1000000) (H : List (List Blk)) : CallEq X H 19 [.d (.sl (l.map cWr)), .func (.func 17) [] []] (.d (.bool b)) [] := h ▸ c_anyW l hl H
theorem f0 (k : List UInt8) (H : List (List Blk)) : CallEq X H 21 [pNode n0, .d (encB k)] (.tuple [.d (encVs []), .d (.bool false)]) [] := by
  have := d_find 1 n0 k (by decide) ok0 H
  rw [fi0] at this; exact this
theorem f1 {k : List UInt8} {c : List Ver} (hn : nOk 1 (.mk [k] [c] [])) (h : checkN 1 (.mk [k] [c] []) = true) (H : List (List Blk)) : CallEq X H 21 [pNode (.mk [k] [c] []), .d (encB k)] (.tuple [.d (encVs c), .d (.bool true)]) [] := by
  have := d_find 1 (.mk [k] [c] []) k (by decide) hn H
  rw [fi1 h] at this; exact this
theorem m0' (H : List (List Blk)) : CallEq X H 23 [pNode n0] (.d (.int .i64 0)) [] := by
  have := d_many 1 n0 (by decide) ok0 H
  unfold keysN at this
  rw [chk0] at this; exact this
theorem vi (l : List Ver) (x : Ver) (l' : List Ver) (e : Int) (h : chInst l x = (l', e)) (hl : l.length < 100000) (hv : ∀ x ∈ l, x.val.length ≤ 1000000) (hx : x.val.length ≤ 1000000) (H : List (List Blk)) : CallEq X H 22 [.d (encVs l), pVer x] (.tuple [.d (encVs l'), .d (.int .i64 e)]) [] := by
  have := c_vinst l x hl hv hx H
  rw [h] at this; exact this
theorem pA (H : List (List Blk)) : CallEq X H 24 [pNode n0, .d (encB [97]), .d (encVs [vA])] (.tuple [pNode nA1, .d (.int .i64 0)]) [] :=
  p_new [] [] [97] [vA] ok0 rfl (by decide) (by decide) (by decide) (fun x h => by simp [vA] at h; subst h; decide) (by unfold putOk; rw [show checkN 1 (.mk [] [] []) = true from chk0]; decide) (by rw [bsIs_cm]; decide) H
theorem pB (H : List (List Blk)) : CallEq X H 24 [pNode n0, .d (encB [98]), .d (encVs [vB])] (.tuple [pNode nB1, .d (.int .i64 0)]) [] :=
  p_new [] [] [98] [vB] ok0 rfl (by decide) (by decide) (by decide) (fun x h => by simp [vB] at h; subst h; decide) (by unfold putOk; rw [show checkN 1 (.mk [] [] []) = true from chk0]; decide) (by rw [bsIs_cm]; decide) H
theorem pG (H : List (List Blk)) : CallEq X H 24 [pNode nA1, .d (encB [97]), .d (encVs [vA, vG])] (.tuple [pNode nA2, .d (.int .i64 0)]) [] := by
  have := p_old [[97]] [[vA]] [97] [vA, vG] okA1 rfl (by decide) (by decide) (by decide) (fun x h => by simp [vA, vG] at h; rcases h with rfl | rfl <;> decide) (by unfold putOk; rw [show checkN 1 (.mk [[97]] [[vA]] []) = true from chkA1]; decide) (by rw [bsIs_cm]; decide) H
  rw [bs_cm, show cmB [[97]] [97] = 0 by decide] at this
  exact this
theorem pV (H : List (List Blk)) : CallEq X H 24 [pNode nB1, .d (encB [98]), .d (encVs [vB])] (.tuple [pNode nB1, .d (.int .i64 0)]) [] := by
  have := p_old [[98]] [[vB]] [98] [vB] okB1 rfl (by decide) (by decide) (by decide) (fun x h => by simp [vB] at h; subst h; decide) (by unfold putOk; rw [show checkN 1 (.mk [[98]] [[vB]] []) = true from chkB1]; decide) (by rw [bsIs_cm]; decide) H
  rw [bs_cm, show cmB [[98]] [98] = 0 by decide] at this
  exact this
theorem ciA : chInst [] vA = ([vA], 0) := rfl
theorem ciB : chInst [] vB = ([vB], 0) := rfl
theorem ciG : chInst [vA] vG = ([vA, vG], 0) := rfl
theorem ciC : chInst [vA, vG] ⟨5, false, []⟩ = ([vA, vG], 50) := rfl
def instS : Nat → Sto
  | 0 => s0
  | 1 => sA0
  | _ => sA
theorem inst1 (H : List (List Blk)) : CallEq X H 8 [pSto s0, .d (.int .i64 3), .d (.sl [cWr wA, cWr wB])] (.tuple [pSto sA, .d (.int .i64 0)]) [] := by
  refine callEq_of_body X_ok rfl Try.func8 rfl ?_
  conv => whnf
  refine ⟨_, _, k0 _, True.intro, ?_⟩
  conv => whnf
  (first | (refine And.intro (fun q => absurd q (by decide)) (fun _ => ?_); conv => whnf) | (refine And.intro (fun _ => ?_) (fun q => absurd q (by decide)); conv => whnf))
  (first | (refine And.intro (fun q => absurd q (by decide)) (fun _ => ?_); conv => whnf) | (refine And.intro (fun _ => ?_) (fun q => absurd q (by decide)); conv => whnf))
  (first | (refine And.intro (fun q => absurd q (by decide)) (fun _ => ?_); conv => whnf) | (refine And.intro (fun _ => ?_) (fun q => absurd q (by decide)); conv => whnf))
  refine ⟨_, _, an [wA, wB] false (by decide) (by decide) _, True.intro, ?_⟩
  conv => whnf
  (first | (refine And.intro (fun q => absurd q (by decide)) (fun _ => ?_); conv => whnf) | (refine And.intro (fun _ => ?_) (fun q => absurd q (by decide)); conv => whnf))
  refine ⟨_, _, o0 _, True.intro, ?_⟩
  conv => whnf
  refine loopV_of (fun i : Nat => ⟨[.any, .d (.int .i64 3), .d (.sl [cWr wA, cWr wB]), .ptr 0 0 0, .any, .any, .ptr 0 1 0, .d (.int .i64 0), .any, .ptr 0 2 0, .any, .any, .any, .any, .any, .any, .any, .any, .any, .any, .any, .any, .any, .any, .any, .any, .any, .any, .any, .any, .any, .any, .any, .any, .any, .any, .d (.sl [cWr wA, cWr wB]), .d (.int .i64 2), .d (.int .i64 i), .any, .any, .any, .any, .any, .any, .any, .any, .any, .any, .any, .any, .any, .any, .any, .any, .any, .any, .any, .any, .any, .any, .any, .any, .any, .any, .any, .any, .any, .any, .any, .any, .any, .any, .any, .any, .any, .any, .any, .any, .any, .any, .any, .any, .any, .any, .any, .any, .any, .any, .any, .any, .any, .any, .any, .any, .any, .any, .any, .any, .any, .any, .any, .any, .any, .any, .any, .any], [.box s0.cells, .box [.any, .any, .any, .any, .any, .any, .any, .any, .any, .any, .any, .any], .box (instS i).cells]⟩) (fun i => i ≤ 2) (fun i => 2 - i) 0 [0, 1, 2] (by omega) ?_ ?_
  · refine And.intro rfl (And.intro ?_ ?_)
    all_goals (repeat' (first | exact True.intro | exact rfl | refine And.intro ?_ ?_))
  · intro i hi
    rcases (show i = 0 ∨ i = 1 ∨ i = 2 by omega) with rfl | rfl | rfl
    · conv => whnf
      repeat' (first
        | (first | (refine And.intro (fun q => absurd q (by decide)) (fun _ => ?_); conv => whnf) | (refine And.intro (fun _ => ?_) (fun q => absurd q (by decide)); conv => whnf))
        | (refine ⟨by decide, cWr wA, rfl, rfl, ?_⟩; conv => whnf)
        | (refine ⟨by decide, by decide, ?_⟩; conv => whnf)
        | (refine ⟨0, rfl, ?_⟩; conv => whnf)
        | (refine ⟨_, _, f0 _ _, True.intro, ?_⟩; conv => whnf)
        | (refine ⟨_, _, vi [] vA [vA] 0 ciA (by decide) (fun x h => by cases h) (by decide) _, True.intro, ?_⟩; conv => whnf)
        | (refine ⟨_, _, m0' _, True.intro, ?_⟩; conv => whnf)
        | (refine ⟨_, _, pA _, True.intro, ?_⟩; conv => whnf))
      intro z hz
      conv => whnf
      rw [wrap_small (by omega) (by omega)] at hz
      subst hz
      refine ⟨1, [0, 1, 2], by omega, by omega, And.intro rfl (And.intro ?_ ?_)⟩
      all_goals (repeat' (first | exact True.intro | exact rfl | refine And.intro ?_ ?_))
    · conv => whnf
      repeat' (first
        | (first | (refine And.intro (fun q => absurd q (by decide)) (fun _ => ?_); conv => whnf) | (refine And.intro (fun _ => ?_) (fun q => absurd q (by decide)); conv => whnf))
        | (refine ⟨by decide, cWr wB, rfl, rfl, ?_⟩; conv => whnf)
        | (refine ⟨by decide, by decide, ?_⟩; conv => whnf)
        | (refine ⟨1, rfl, ?_⟩; conv => whnf)
        | (refine ⟨_, _, f0 _ _, True.intro, ?_⟩; conv => whnf)
        | (refine ⟨_, _, vi [] vB [vB] 0 ciB (by decide) (fun x h => by cases h) (by decide) _, True.intro, ?_⟩; conv => whnf)
        | (refine ⟨_, _, m0' _, True.intro, ?_⟩; conv => whnf)
        | (refine ⟨_, _, pB _, True.intro, ?_⟩; conv => whnf))
      intro z hz
      conv => whnf
      rw [wrap_small (by omega) (by omega)] at hz
      subst hz
      refine ⟨2, [0, 1, 2], by omega, by omega, And.intro rfl (And.intro ?_ ?_)⟩
      all_goals (repeat' (first | exact True.intro | exact rfl | refine And.intro ?_ ?_))
    · conv => whnf
      (first | (refine And.intro (fun q => absurd q (by decide)) (fun _ => ?_); conv => whnf) | (refine And.intro (fun _ => ?_) (fun q => absurd q (by decide)); conv => whnf))
      exact ⟨[], rfl, by (repeat' (first | exact True.intro | exact rfl | refine And.intro ?_ ?_))⟩
def instT : Nat → Sto
  | 0 => sA
  | _ => sB
theorem inst2 (H : List (List Blk)) : CallEq X H 8 [pSto sA, .d (.int .i64 5), .d (.sl [cWr wG])] (.tuple [pSto sB, .d (.int .i64 0)]) [] := by
  refine callEq_of_body X_ok rfl Try.func8 rfl ?_
  conv => whnf
  refine ⟨_, _, kA _, True.intro, ?_⟩
  conv => whnf
  (first | (refine And.intro (fun q => absurd q (by decide)) (fun _ => ?_); conv => whnf) | (refine And.intro (fun _ => ?_) (fun q => absurd q (by decide)); conv => whnf))
  (first | (refine And.intro (fun q => absurd q (by decide)) (fun _ => ?_); conv => whnf) | (refine And.intro (fun _ => ?_) (fun q => absurd q (by decide)); conv => whnf))
  (first | (refine And.intro (fun q => absurd q (by decide)) (fun _ => ?_); conv => whnf) | (refine And.intro (fun _ => ?_) (fun q => absurd q (by decide)); conv => whnf))
  refine ⟨_, _, an [wG] false (by decide) (by decide) _, True.intro, ?_⟩
  conv => whnf
  (first | (refine And.intro (fun q => absurd q (by decide)) (fun _ => ?_); conv => whnf) | (refine And.intro (fun _ => ?_) (fun q => absurd q (by decide)); conv => whnf))
  refine ⟨_, _, oA _, True.intro, ?_⟩
  conv => whnf
  refine loopV_of (fun i : Nat => ⟨[.any, .d (.int .i64 5), .d (.sl [cWr wG]), .ptr 0 0 0, .any, .any, .ptr 0 1 0, .d (.int .i64 0), .any, .ptr 0 2 0, .any, .any, .any, .any, .any, .any, .any, .any, .any, .any, .any, .any, .any, .any, .any, .any, .any, .any, .any, .any, .any, .any, .any, .any, .any, .any, .d (.sl [cWr wG]), .d (.int .i64 1), .d (.int .i64 i), .any, .any, .any, .any, .any, .any, .any, .any, .any, .any, .any, .any, .any, .any, .any, .any, .any, .any, .any, .any, .any, .any, .any, .any, .any, .any, .any, .any, .any, .any, .any, .any, .any, .any, .any, .any, .any, .any, .any, .any, .any, .any, .any, .any, .any, .any, .any, .any, .any, .any, .any, .any, .any, .any, .any, .any, .any, .any, .any, .any, .any, .any, .any, .any, .any, .any, .any, .any], [.box sA.cells, .box [.any, .any, .any, .any, .any, .any, .any, .any, .any, .any, .any, .any], .box (instT i).cells]⟩) (fun i => i ≤ 1) (fun i => 1 - i) 0 [0, 1, 2] (by omega) ?_ ?_
  · refine And.intro rfl (And.intro ?_ ?_)
    all_goals (repeat' (first | exact True.intro | exact rfl | refine And.intro ?_ ?_))
  · intro i hi
    rcases (show i = 0 ∨ i = 1 by omega) with rfl | rfl
    · conv => whnf
      repeat' (first
        | (first | (refine And.intro (fun q => absurd q (by decide)) (fun _ => ?_); conv => whnf) | (refine And.intro (fun _ => ?_) (fun q => absurd q (by decide)); conv => whnf))
        | (refine ⟨by decide, cWr wG, rfl, rfl, ?_⟩; conv => whnf)
        | (refine ⟨by decide, by decide, ?_⟩; conv => whnf)
        | (refine ⟨0, rfl, ?_⟩; conv => whnf)
        | (refine ⟨_, _, f1 okA1 chkA1 _, True.intro, ?_⟩; conv => whnf)
        | (refine ⟨_, _, vi [vA] vG [vA, vG] 0 ciG (by decide) (fun x h => by simp [vA] at h; subst h; decide) (by decide) _, True.intro, ?_⟩; conv => whnf)
        | (refine ⟨_, _, pG _, True.intro, ?_⟩; conv => whnf))
      intro z hz
      conv => whnf
      rw [wrap_small (by omega) (by omega)] at hz
      subst hz
      refine ⟨1, [0, 1, 2], by omega, by omega, And.intro rfl (And.intro ?_ ?_)⟩
      all_goals (repeat' (first | exact True.intro | exact rfl | refine And.intro ?_ ?_))
    · conv => whnf
      (first | (refine And.intro (fun q => absurd q (by decide)) (fun _ => ?_); conv => whnf) | (refine And.intro (fun _ => ?_) (fun q => absurd q (by decide)); conv => whnf))
      exact ⟨[], rfl, by (repeat' (first | exact True.intro | exact rfl | refine And.intro ?_ ?_))⟩
theorem inst3 (H : List (List Blk)) : CallEq X H 8 [pSto sB, .d (.int .i64 5), .d (.sl [cWr wC])] (.tuple [pSto sB, .d (.int .i64 50)]) [] := by
  refine callEq_of_body X_ok rfl Try.func8 rfl ?_
  conv => whnf
  refine ⟨_, _, kB _, True.intro, ?_⟩
  conv => whnf
  (first | (refine And.intro (fun q => absurd q (by decide)) (fun _ => ?_); conv => whnf) | (refine And.intro (fun _ => ?_) (fun q => absurd q (by decide)); conv => whnf))
  (first | (refine And.intro (fun q => absurd q (by decide)) (fun _ => ?_); conv => whnf) | (refine And.intro (fun _ => ?_) (fun q => absurd q (by decide)); conv => whnf))
  (first | (refine And.intro (fun q => absurd q (by decide)) (fun _ => ?_); conv => whnf) | (refine And.intro (fun _ => ?_) (fun q => absurd q (by decide)); conv => whnf))
  refine ⟨_, _, an [wC] false (by decide) (by decide) _, True.intro, ?_⟩
  conv => whnf
  (first | (refine And.intro (fun q => absurd q (by decide)) (fun _ => ?_); conv => whnf) | (refine And.intro (fun _ => ?_) (fun q => absurd q (by decide)); conv => whnf))
  refine ⟨_, _, oB _, True.intro, ?_⟩
  conv => whnf
  refine loopV_of (fun i : Nat => ⟨[.any, .d (.int .i64 5), .d (.sl [cWr wC]), .ptr 0 0 0, .any, .any, .ptr 0 1 0, .d (.int .i64 0), .any, .ptr 0 2 0, .any, .any, .any, .any, .any, .any, .any, .any, .any, .any, .any, .any, .any, .any, .any, .any, .any, .any, .any, .any, .any, .any, .any, .any, .any, .any, .d (.sl [cWr wC]), .d (.int .i64 1), .d (.int .i64 i), .any, .any, .any, .any, .any, .any, .any, .any, .any, .any, .any, .any, .any, .any, .any, .any, .any, .any, .any, .any, .any, .any, .any, .any, .any, .any, .any, .any, .any, .any, .any, .any, .any, .any, .any, .any, .any, .any, .any, .any, .any, .any, .any, .any, .any, .any, .any, .any, .any, .any, .any, .any, .any, .any, .any, .any, .any, .any, .any, .any, .any, .any, .any, .any, .any, .any, .any, .any], [.box sB.cells, .box [.any, .any, .any, .any, .any, .any, .any, .any, .any, .any, .any, .any], .box (sB).cells]⟩) (fun i => i = 0) (fun i => 1 - i) 0 [0, 1, 2] rfl ?_ ?_
  · refine And.intro rfl (And.intro ?_ ?_)
    all_goals (repeat' (first | exact True.intro | exact rfl | refine And.intro ?_ ?_))
  · intro i hi
    subst hi
    · conv => whnf
      repeat' (first
        | (first | (refine And.intro (fun q => absurd q (by decide)) (fun _ => ?_); conv => whnf) | (refine And.intro (fun _ => ?_) (fun q => absurd q (by decide)); conv => whnf))
        | (refine ⟨by decide, cWr wC, rfl, rfl, ?_⟩; conv => whnf)
        | (refine ⟨by decide, by decide, ?_⟩; conv => whnf)
        | (refine ⟨0, rfl, ?_⟩; conv => whnf)
        | (refine ⟨_, _, f1 okA2 chkA2 _, True.intro, ?_⟩; conv => whnf)
        | (refine ⟨_, _, vi [vA, vG] ⟨5, false, []⟩ [vA, vG] 50 ciC (by decide) (fun x h => by simp [vA, vG] at h; rcases h with rfl | rfl <;> decide) (by decide) _, True.intro, ?_⟩; conv => whnf)
        | (refine ⟨_, _, oB _, True.intro, ?_⟩; conv => whnf))
      exact ⟨[], rfl, by (repeat' (first | exact True.intro | exact rfl | refine And.intro ?_ ?_))⟩
theorem inst4 (H : List (List Blk)) : CallEq X H 8 [pSto sB, .d (.int .i64 6), .d (.sl [cWr w4])] (.tuple [pSto sB, .d (.int .i64 1)]) [] := by
  refine callEq_of_body X_ok rfl Try.func8 rfl ?_
  conv => whnf
  refine ⟨_, _, kB _, True.intro, ?_⟩
  conv => whnf
  (first | (refine And.intro (fun q => absurd q (by decide)) (fun _ => ?_); conv => whnf) | (refine And.intro (fun _ => ?_) (fun q => absurd q (by decide)); conv => whnf))
  (first | (refine And.intro (fun q => absurd q (by decide)) (fun _ => ?_); conv => whnf) | (refine And.intro (fun _ => ?_) (fun q => absurd q (by decide)); conv => whnf))
  (first | (refine And.intro (fun q => absurd q (by decide)) (fun _ => ?_); conv => whnf) | (refine And.intro (fun _ => ?_) (fun q => absurd q (by decide)); conv => whnf))
  refine ⟨_, _, an [w4] true (by decide) (by decide) _, True.intro, ?_⟩
  conv => whnf
  (first | (refine And.intro (fun q => absurd q (by decide)) (fun _ => ?_); conv => whnf) | (refine And.intro (fun _ => ?_) (fun q => absurd q (by decide)); conv => whnf))
  refine ⟨_, _, oB _, True.intro, ?_⟩
  conv => whnf
  exact ⟨[], rfl, by (repeat' (first | exact True.intro | exact rfl | refine And.intro ?_ ?_))⟩
end Go.Proofs.Ve

/- Vacuum of what awake has made. -/
set_option maxRecDepth 100000
set_option maxHeartbeats 20000000
set_option linter.all false
namespace Go.Proofs.Ve
open Go
theorem ky0 (H : List (List Blk)) : CallEq X H 28 [pNode n0] (.d (encKs [])) [] := by
  have := d_keys 1 n0 (by decide) ok0 H
  unfold keysN at this
  rw [chk0] at this; exact this
theorem ky1 {k : List UInt8} {c : List Ver} (hn : nOk 1 (.mk [k] [c] [])) (h : checkN 1 (.mk [k] [c] []) = true) (H : List (List Blk)) : CallEq X H 28 [pNode (.mk [k] [c] [])] (.d (encKs [k])) [] := by
  have := d_keys 1 (.mk [k] [c] []) (by decide) hn H
  unfold keysN at this
  rw [h] at this; exact this
theorem vv (l l' : List Ver) (o : Int) (h : chVac l o = l') (hl : l.length < 100000) (hv : ∀ x ∈ l, x.val.length ≤ 1000000) (H : List (List Blk)) : CallEq X H 29 [.d (encVs l), .d (.int .i64 o)] (.d (encVs l')) [] := h ▸ c_vvac l o hl hv H
theorem cvA : chVac [vA, vG] 5 = [] := rfl
theorem cvB : chVac [vB] 5 = [vB] := rfl
theorem dA (H : List (List Blk)) : CallEq X H 30 [pNode nA2, .d (encB [97])] (.tuple [pNode n0, .d (.int .i64 0)]) [] := p_gone [97] [vA, vG] [97] okA2 (by decide) chkA2 (by rw [bsIs_cm]; decide) H
def vacS : Nat → Sto
  | 0 => sB
  | _ => sV
def vacO (i : Nat) : List PV := (vacS i).cells
theorem vac5 (H : List (List Blk)) : CallEq X H 13 [pSto sB, .d (.int .i64 5)] (pSto sV) [] := by
  refine callEq_of_body X_ok rfl Try.func13 rfl ?_
  conv => whnf
  refine ⟨_, _, oB _, True.intro, ?_⟩
  conv => whnf
  refine ⟨_, _, kB _, True.intro, ?_⟩
  conv => whnf
  (first | (refine And.intro (fun q => absurd q (by decide)) (fun _ => ?_); conv => whnf) | (refine And.intro (fun _ => ?_) (fun q => absurd q (by decide)); conv => whnf))
  refine loopV_of (fun i : Nat => ⟨[.any, .d (.int .i64 5), .ptr 0 0 0, .any, .ptr 0 1 0, .ptr 0 2 0, .any, .any, .any, .any, .any, .any, .any, .any, .any, .any, .any, .any, .any, .any, pSto sB, .d (.int .i64 i), .any, .any, .any, .any, .any, .any, .any, .any, .any, .any, .any, .any, .any, .any, .any, .any, .any, .any, .any, .any, .any, .any, .any, .any, .any, .any, .any, .any, .any, .any, .any, .any, .any, .any, .any, .any, .any, .any, .any, .any, .any, .any, .any, .any, .any, .any, .any, .any, .any, .any], [.box sB.cells, .box [.any, .any, .any, .any, .any, .any, .any, .any, .any, .any, .any, .any], .box (vacS i).cells]⟩) (fun i => i ≤ 4) (fun i => 4 - i) 0 [0, 1, 2] (by omega) ?_ ?_
  · refine And.intro rfl (And.intro ?_ ?_)
    all_goals (repeat' (first | exact True.intro | exact rfl | refine And.intro ?_ ?_))
  · intro i hi
    rcases (show i = 0 ∨ i = 1 ∨ i = 2 ∨ i = 3 ∨ i = 4 by omega) with rfl | rfl | rfl | rfl | rfl
    · conv => whnf
      (first | (refine And.intro (fun q => absurd q (by decide)) (fun _ => ?_); conv => whnf) | (refine And.intro (fun _ => ?_) (fun q => absurd q (by decide)); conv => whnf))
      refine ⟨by decide, by decide, ?_⟩
      conv => whnf
      refine ⟨_, _, ky1 okA2 chkA2 _, True.intro, ?_⟩
      conv => whnf
      refine loopV_of (fun k : Nat => ⟨[.any, .d (.int .i64 5), .ptr 0 0 0, .any, .ptr 0 1 0, .ptr 0 2 0, .d (.int .i64 0), .ptr 0 3 0, .any, .any, .any, .any, .any, .any, .any, .any, .any, .any, .any, .any, pSto sB, .d (.int .i64 0), .any, .any, .any, .any, .d (encKs [[97]]), .d (.int .i64 1), .d (.int .i64 k), .any, .any, .any, .any, .any, .any, .any, .any, .any, .any, .any, .any, .any, .any, .any, .any, .any, .any, .any, .any, .any, .any, .any, .any, .any, .any, .any, .any, .any, .any, .any, .any, .any, .any, .any, .any, .any, .any, .any, .any, .any, .any, .any], [.box sB.cells, .box [.any, .any, .any, .any, .any, .any, .any, .any, .any, .any, .any, .any], .box (vacS k).cells, .box [.d (encKs [[97]]), .d (encCs [[vA, vG]]), .d (encNs [])]]⟩) (fun i => i ≤ 1) (fun i => 1 - i) 0 [0, 1, 2, 3] (by omega) ?_ ?_
      · refine And.intro rfl (And.intro ?_ ?_)
        all_goals (repeat' (first | exact True.intro | exact rfl | refine And.intro ?_ ?_))
      · intro k hk
        rcases (show k = 0 ∨ k = 1 by omega) with rfl | rfl
        · conv => whnf
          repeat' (first
            | (first | (refine And.intro (fun q => absurd q (by decide)) (fun _ => ?_); conv => whnf) | (refine And.intro (fun _ => ?_) (fun q => absurd q (by decide)); conv => whnf))
            | (refine ⟨by decide, [encB [97]], rfl, rfl, ?_⟩; conv => whnf)
            | (refine ⟨_, _, f1 okA2 chkA2 _, True.intro, ?_⟩; conv => whnf)
            | (refine ⟨_, _, vv [vA, vG] [] 5 cvA (by decide) (fun x h => by simp [vA, vG] at h; rcases h with rfl | rfl <;> decide) _, True.intro, ?_⟩; conv => whnf)
            | (refine ⟨by decide, by decide, ?_⟩; conv => whnf)
            | (refine ⟨0, rfl, ?_⟩; conv => whnf)
            | (refine ⟨_, _, dA _, True.intro, ?_⟩; conv => whnf))
          intro z hz
          conv => whnf
          rw [wrap_small (by omega) (by omega)] at hz
          subst hz
          refine ⟨1, [0, 1, 2, 3], by omega, by omega, And.intro rfl (And.intro ?_ ?_)⟩
          all_goals (repeat' (first | exact True.intro | exact rfl | refine And.intro ?_ ?_))
        · conv => whnf
          (first | (refine And.intro (fun q => absurd q (by decide)) (fun _ => ?_); conv => whnf) | (refine And.intro (fun _ => ?_) (fun q => absurd q (by decide)); conv => whnf))
          intro z hz
          conv => whnf
          rw [wrap_small (by omega) (by omega)] at hz
          subst hz
          refine ⟨1, [0, 1, 2], by omega, by omega, And.intro rfl (And.intro ?_ ?_)⟩
          all_goals (repeat' (first | exact True.intro | exact rfl | refine And.intro ?_ ?_))
    · conv => whnf
      (first | (refine And.intro (fun q => absurd q (by decide)) (fun _ => ?_); conv => whnf) | (refine And.intro (fun _ => ?_) (fun q => absurd q (by decide)); conv => whnf))
      refine ⟨by decide, by decide, ?_⟩
      conv => whnf
      refine ⟨_, _, ky1 okB1 chkB1 _, True.intro, ?_⟩
      conv => whnf
      refine loopV_of (fun k : Nat => ⟨[.any, .d (.int .i64 5), .ptr 0 0 0, .any, .ptr 0 1 0, .ptr 0 2 0, .d (.int .i64 1), .ptr 0 3 0, .any, .any, .any, .any, .any, .any, .any, .any, .any, .any, .any, .any, pSto sB, .d (.int .i64 1), .any, .any, .any, .any, .d (encKs [[98]]), .d (.int .i64 1), .d (.int .i64 k), .any, .any, .any, .any, .any, .any, .any, .any, .any, .any, .any, .any, .any, .any, .any, .any, .any, .any, .any, .any, .any, .any, .any, .any, .any, .any, .any, .any, .any, .any, .any, .any, .any, .any, .any, .any, .any, .any, .any, .any, .any, .any, .any], [.box sB.cells, .box [.any, .any, .any, .any, .any, .any, .any, .any, .any, .any, .any, .any], .box sV.cells, .box [.d (encKs [[98]]), .d (encCs [[vB]]), .d (encNs [])]]⟩) (fun i => i ≤ 1) (fun i => 1 - i) 0 [0, 1, 2, 3] (by omega) ?_ ?_
      · refine And.intro rfl (And.intro ?_ ?_)
        all_goals (repeat' (first | exact True.intro | exact rfl | refine And.intro ?_ ?_))
      · intro k hk
        rcases (show k = 0 ∨ k = 1 by omega) with rfl | rfl
        · conv => whnf
          repeat' (first
            | (first | (refine And.intro (fun q => absurd q (by decide)) (fun _ => ?_); conv => whnf) | (refine And.intro (fun _ => ?_) (fun q => absurd q (by decide)); conv => whnf))
            | (refine ⟨by decide, [encB [98]], rfl, rfl, ?_⟩; conv => whnf)
            | (refine ⟨_, _, f1 okB1 chkB1 _, True.intro, ?_⟩; conv => whnf)
            | (refine ⟨_, _, vv [vB] [vB] 5 cvB (by decide) (fun x h => by simp [vB] at h; subst h; decide) _, True.intro, ?_⟩; conv => whnf)
            | (refine ⟨by decide, by decide, ?_⟩; conv => whnf)
            | (refine ⟨1, rfl, ?_⟩; conv => whnf)
            | (refine ⟨_, _, pV _, True.intro, ?_⟩; conv => whnf))
          intro z hz
          conv => whnf
          rw [wrap_small (by omega) (by omega)] at hz
          subst hz
          refine ⟨1, [0, 1, 2, 3], by omega, by omega, And.intro rfl (And.intro ?_ ?_)⟩
          all_goals (repeat' (first | exact True.intro | exact rfl | refine And.intro ?_ ?_))
        · conv => whnf
          (first | (refine And.intro (fun q => absurd q (by decide)) (fun _ => ?_); conv => whnf) | (refine And.intro (fun _ => ?_) (fun q => absurd q (by decide)); conv => whnf))
          intro z hz
          conv => whnf
          rw [wrap_small (by omega) (by omega)] at hz
          subst hz
          refine ⟨2, [0, 1, 2], by omega, by omega, And.intro rfl (And.intro ?_ ?_)⟩
          all_goals (repeat' (first | exact True.intro | exact rfl | refine And.intro ?_ ?_))
    · conv => whnf
      (first | (refine And.intro (fun q => absurd q (by decide)) (fun _ => ?_); conv => whnf) | (refine And.intro (fun _ => ?_) (fun q => absurd q (by decide)); conv => whnf))
      refine ⟨by decide, by decide, ?_⟩
      conv => whnf
      refine ⟨_, _, ky0 _, True.intro, ?_⟩
      conv => whnf
      refine loopV_of (fun k : Nat => ⟨[.any, .d (.int .i64 5), .ptr 0 0 0, .any, .ptr 0 1 0, .ptr 0 2 0, .d (.int .i64 2), .ptr 0 3 0, .any, .any, .any, .any, .any, .any, .any, .any, .any, .any, .any, .any, pSto sB, .d (.int .i64 2), .any, .any, .any, .any, .d (encKs []), .d (.int .i64 0), .d (.int .i64 k), .any, .any, .any, .any, .any, .any, .any, .any, .any, .any, .any, .any, .any, .any, .any, .any, .any, .any, .any, .any, .any, .any, .any, .any, .any, .any, .any, .any, .any, .any, .any, .any, .any, .any, .any, .any, .any, .any, .any, .any, .any, .any, .any], [.box sB.cells, .box [.any, .any, .any, .any, .any, .any, .any, .any, .any, .any, .any, .any], .box sV.cells, .box [.d (encKs []), .d (encCs []), .d (encNs [])]]⟩) (fun i => i = 0) (fun i => 1 - i) 0 [0, 1, 2, 3] rfl ?_ ?_
      · refine And.intro rfl (And.intro ?_ ?_)
        all_goals (repeat' (first | exact True.intro | exact rfl | refine And.intro ?_ ?_))
      · intro k hk
        subst hk
        conv => whnf
        (first | (refine And.intro (fun q => absurd q (by decide)) (fun _ => ?_); conv => whnf) | (refine And.intro (fun _ => ?_) (fun q => absurd q (by decide)); conv => whnf))
        intro z hz
        conv => whnf
        rw [wrap_small (by omega) (by omega)] at hz
        subst hz
        refine ⟨3, [0, 1, 2], by omega, by omega, And.intro rfl (And.intro ?_ ?_)⟩
        all_goals (repeat' (first | exact True.intro | exact rfl | refine And.intro ?_ ?_))
    · conv => whnf
      (first | (refine And.intro (fun q => absurd q (by decide)) (fun _ => ?_); conv => whnf) | (refine And.intro (fun _ => ?_) (fun q => absurd q (by decide)); conv => whnf))
      refine ⟨by decide, by decide, ?_⟩
      conv => whnf
      refine ⟨_, _, ky0 _, True.intro, ?_⟩
      conv => whnf
      refine loopV_of (fun k : Nat => ⟨[.any, .d (.int .i64 5), .ptr 0 0 0, .any, .ptr 0 1 0, .ptr 0 2 0, .d (.int .i64 3), .ptr 0 3 0, .any, .any, .any, .any, .any, .any, .any, .any, .any, .any, .any, .any, pSto sB, .d (.int .i64 3), .any, .any, .any, .any, .d (encKs []), .d (.int .i64 0), .d (.int .i64 k), .any, .any, .any, .any, .any, .any, .any, .any, .any, .any, .any, .any, .any, .any, .any, .any, .any, .any, .any, .any, .any, .any, .any, .any, .any, .any, .any, .any, .any, .any, .any, .any, .any, .any, .any, .any, .any, .any, .any, .any, .any, .any, .any], [.box sB.cells, .box [.any, .any, .any, .any, .any, .any, .any, .any, .any, .any, .any, .any], .box sV.cells, .box [.d (encKs []), .d (encCs []), .d (encNs [])]]⟩) (fun i => i = 0) (fun i => 1 - i) 0 [0, 1, 2, 3] rfl ?_ ?_
      · refine And.intro rfl (And.intro ?_ ?_)
        all_goals (repeat' (first | exact True.intro | exact rfl | refine And.intro ?_ ?_))
      · intro k hk
        subst hk
        conv => whnf
        (first | (refine And.intro (fun q => absurd q (by decide)) (fun _ => ?_); conv => whnf) | (refine And.intro (fun _ => ?_) (fun q => absurd q (by decide)); conv => whnf))
        intro z hz
        conv => whnf
        rw [wrap_small (by omega) (by omega)] at hz
        subst hz
        refine ⟨4, [0, 1, 2], by omega, by omega, And.intro rfl (And.intro ?_ ?_)⟩
        all_goals (repeat' (first | exact True.intro | exact rfl | refine And.intro ?_ ?_))
    · conv => whnf
      (first | (refine And.intro (fun q => absurd q (by decide)) (fun _ => ?_); conv => whnf) | (refine And.intro (fun _ => ?_) (fun q => absurd q (by decide)); conv => whnf))
      exact ⟨[], rfl, by (repeat' (first | exact True.intro | exact rfl | refine And.intro ?_ ?_))⟩
end Go.Proofs.Ve

/- awake: all that it asks is so. -/
set_option maxRecDepth 100000
set_option maxHeartbeats 20000000
set_option linter.all false
namespace Go.Proofs.Ve
open Go
theorem ga (st : Int) : getA 1 sB 0 [97] st = readV [vA, vG] st := by
  unfold getA
  rw [stB, if_pos (by decide)]
  rw [show sTab sB 0 = nA2 from rfl, show findA 1 nA2 [97] = some [vA, vG] from fi1 chkA2]
  rfl
theorem g4 (H : List (List Blk)) : CallEq X H 9 [pSto sB, .d (.int .i64 0), .d (encB [97]), .d (.int .i64 4)] (.tuple [.d (encB [118]), .d (.bool true)]) [] := by
  have := c_get 1 sB 0 [97] 4 (by decide) sokB H
  rw [ga, show readV [vA, vG] 4 = some [118] from rfl] at this
  exact this
theorem g2 (H : List (List Blk)) : CallEq X H 9 [pSto sB, .d (.int .i64 0), .d (encB [97]), .d (.int .i64 2)] (.tuple [.d (encB []), .d (.bool false)]) [] := by
  have := c_get 1 sB 0 [97] 2 (by decide) sokB H
  rw [ga, show readV [vA, vG] 2 = none from rfl] at this
  exact this
theorem g5 (H : List (List Blk)) : CallEq X H 9 [pSto sB, .d (.int .i64 0), .d (encB [97]), .d (.int .i64 5)] (.tuple [.d (encB []), .d (.bool false)]) [] := by
  have := c_get 1 sB 0 [97] 5 (by decide) sokB H
  rw [ga, show readV [vA, vG] 5 = none from rfl] at this
  exact this
def xAll : Span := ⟨0, [], [], true⟩
theorem siA : stIn 1 sB xAll = [([97], [vA, vG])] := by
  unfold stIn
  rw [stB, if_pos (by decide)]
  unfold inT
  rw [show sTab sB xAll.t = nA2 from rfl, pairs_all chkA2]
  rfl
theorem sc3 (H : List (List Blk)) : CallEq X H 11 [pSto sB, pSpan xAll, .d (.int .i64 3)] (.d (.sl [[encB [97], encB [118]]])) [] := by
  have := c_scan 1 sB xAll 3 (by decide) sokB (by decide) (by decide) H
  unfold scanA at this
  rw [siA] at this
  exact this
theorem nw4 (H : List (List Blk)) : CallEq X H 14 [pSto sB, pSpan xAll, .d (.int .i64 4)] (.d (.bool true)) [] := by
  have := c_snewer 1 sB xAll 4 (by decide) sokB (by decide) (by decide) H
  unfold newerA at this
  rw [siA] at this
  exact this
theorem nw5 (H : List (List Blk)) : CallEq X H 14 [pSto sB, pSpan xAll, .d (.int .i64 5)] (.d (.bool false)) [] := by
  have := c_snewer 1 sB xAll 5 (by decide) sokB (by decide) (by decide) H
  unfold newerA at this
  rw [siA] at this
  exact this
theorem kV (H : List (List Blk)) : CallEq X H 15 [pSto sV] (.d (.bool true)) [] := stV ▸ c_check 1 sV (by decide) sokV H
theorem c_awake7 (H : List (List Blk)) : CallEq X H 6 [] (.d (.bool true)) [] := by
  refine callEq_of_bodyF X_ok false true (mo := []) (by kernel_rfl) Try.func6 rfl ?_
  conv => whnf
  refine ⟨_, _, (inst1 _).md _ _, True.intro, ?_⟩
  conv => whnf
  refine ⟨_, _, (inst2 _).md _ _, True.intro, ?_⟩
  conv => whnf
  refine ⟨_, _, (inst3 _).md _ _, True.intro, ?_⟩
  conv => whnf
  refine ⟨_, _, (inst4 _).md _ _, True.intro, ?_⟩
  conv => whnf
  refine ⟨_, _, (g4 _).md _ _, True.intro, ?_⟩
  conv => whnf
  refine ⟨_, _, (g2 _).md _ _, True.intro, ?_⟩
  conv => whnf
  refine ⟨_, _, (g5 _).md _ _, True.intro, ?_⟩
  conv => whnf
  refine ⟨_, _, (sc3 _).md _ _, True.intro, ?_⟩
  conv => whnf
  refine ⟨_, _, (vac5 _).md _ _, True.intro, ?_⟩
  conv => whnf
  repeat' (first
    | (first | (refine And.intro (fun q => absurd q (by decide)) (fun _ => ?_); conv => whnf) | (refine And.intro (fun _ => ?_) (fun q => absurd q (by decide)); conv => whnf))
    | (refine And.intro (fun _ => ?_) (fun q => Bool.noConfusion (show true = false from (beq_self_eq_true _).symm.trans q)); conv => whnf)
    | (refine ⟨[], rfl, ?_, True.intro⟩; exact rfl)
    | (refine ⟨[118], rfl, ?_⟩; conv => whnf)
    | (refine ⟨_, _, (nw4 _).md _ _, True.intro, ?_⟩; conv => whnf)
    | (refine ⟨_, _, (nw5 _).md _ _, True.intro, ?_⟩; conv => whnf)
    | (refine ⟨_, _, (kV _).md _ _, True.intro, ?_⟩; conv => whnf)
    | (refine ⟨by decide, by decide, ?_⟩; conv => whnf)
    | (refine ⟨0, rfl, ?_⟩; conv => whnf)
    | (refine ⟨1, rfl, ?_⟩; conv => whnf)
    | fail)
end Go.Proofs.Ve

/- Spans: their pairs are their keys' values, keys ascend, and a span's pairs are those of its parts. -/
set_option maxRecDepth 100000
set_option maxHeartbeats 4000000
set_option linter.all false
namespace Go.Proofs.Ve
open Go
def SortedKP (l : List KP) : Prop := l.Pairwise fun p q => cm p.1 q.1 < 0
theorem scanL_key {l : List KV} {st : Int} {p : KP} (h : p ∈ scanL l st) : ∃ q ∈ l, q.1 = p.1 ∧ readV q.2 st = some p.2 := by
  unfold scanL at h
  obtain ⟨q, hq, h⟩ := List.mem_filterMap.1 h
  obtain ⟨v, hv, h⟩ := Option.map_eq_some_iff.1 h
  subst h
  exact ⟨q, hq, rfl, hv⟩
theorem scanL_cons (p : KV) (l : List KV) (st : Int) : scanL (p :: l) st = (match readV p.2 st with | some v => [(p.1, v)] | none => []) ++ scanL l st := by
  unfold scanL
  cases h : readV p.2 st <;> simp [List.filterMap_cons, h]
theorem scanL_app (a b : List KV) (st : Int) : scanL (a ++ b) st = scanL a st ++ scanL b st := List.filterMap_append ..
theorem scanL_sorted : ∀ {l : List KV} (_ : SortedKV l) (st : Int), SortedKP (scanL l st)
  | [], _, _ => List.Pairwise.nil
  | p :: l, h, st => by
    have h1 := (List.pairwise_cons.1 h).1
    have h2 := scanL_sorted (List.pairwise_cons.1 h).2 st
    rw [scanL_cons]
    cases readV p.2 st with
    | none => exact h2
    | some v =>
      refine List.pairwise_cons.2 ⟨fun q hq => ?_, h2⟩
      obtain ⟨r, hr, e, _⟩ := scanL_key hq
      rw [← e]; exact h1 r hr
theorem inT_sorted (d : Nat) (n : Node) (x : Span) : SortedKV (inT d n x) := List.Pairwise.filter _ (pairs_sorted d n)
theorem stIn_sorted (d : Nat) (s : Sto) (x : Span) : SortedKV (stIn d s x) := by
  unfold stIn
  split
  · exact inT_sorted ..
  · exact List.Pairwise.nil
theorem scanA_sorted (d : Nat) (s : Sto) (x : Span) (st : Int) : SortedKP (scanA d s x st) := scanL_sorted (stIn_sorted d s x) st
theorem scanA_get {d : Nat} {s : Sto} {x : Span} {st : Int} (hs : sOk d s) {p : KP} (h : p ∈ scanA d s x st) : getA d s x.t p.1 st = some p.2 := by
  obtain ⟨q, hq, e, hv⟩ := scanL_key h
  unfold stIn at hq
  split at hq
  · rename_i hc
    unfold getA
    rw [if_pos hc, ← e, findA_eq (sTab_ok hs x.t), find_self (pairs_sorted d _) (List.mem_filter.1 hq).1]
    exact hv
  · cases hq
theorem scanA_up {d : Nat} {s : Sto} {x : Span} {st : Int} {i : Nat} {p q : KP} (h1 : (scanA d s x st)[i]? = some p) (h2 : (scanA d s x st)[i + 1]? = some q) : cm p.1 q.1 < 0 := by
  have h := scanA_sorted d s x st
  obtain ⟨hi, e1⟩ := List.getElem?_eq_some_iff.1 h1
  obtain ⟨hj, e2⟩ := List.getElem?_eq_some_iff.1 h2
  have := List.pairwise_iff_getElem.1 h i (i + 1) hi hj (by omega)
  rw [e1, e2] at this; exact this
theorem scanA_len {d : Nat} {s : Sto} {x : Span} {st : Int} (hd : d ≤ 16) (hs : sOk d s) : (scanA d s x st).length < 4294967296 :=
  Nat.lt_of_le_of_lt (List.length_filterMap_le _ _) (stIn_len hd hs)
theorem filter_nil' {α : Type} {P : α → Bool} {l : List α} (h : ∀ x ∈ l, P x = false) : l.filter P = [] := by
  rw [List.filter_eq_nil_iff]; intro x hx; rw [h x hx]; decide
theorem geP_eq (k : List UInt8) (p : KV) : geP k p = true ↔ 0 ≤ cm p.1 k := by unfold geP; simp
theorem cm_le_flip {a b : List UInt8} : 0 ≤ cm a b ↔ cm b a ≤ 0 := by have := cm_flip a b; omega
theorem part : ∀ {L : List KV} (_ : SortedKV L) (x : Span) (cut : List UInt8) (_ : cm x.lo cut ≤ 0) (_ : x.op = true ∨ cm cut x.hi ≤ 0),
    L.filter (spanP x) = L.filter (spanP ⟨x.t, x.lo, cut, false⟩) ++ L.filter (spanP ⟨x.t, cut, x.hi, x.op⟩)
  | [], _, _, _, _, _ => rfl
  | p :: L, hL, x, cut, h1, h2 => by
    have s1 := (List.pairwise_cons.1 hL).1
    have ih := part (List.pairwise_cons.1 hL).2 x cut h1 h2
    by_cases h : cm p.1 cut < 0
    · have hB : spanP ⟨x.t, cut, x.hi, x.op⟩ p = false := by
        unfold spanP geP
        rw [decide_eq_false (by show ¬ 0 ≤ cm p.1 cut; omega)]; rfl
      have hH : hiOk x p = true := by
        unfold hiOk
        rcases h2 with h2 | h2
        · rw [h2]; rfl
        · rw [decide_eq_true (cm_lt_of_lt_le h h2)]; simp
      have hH' : hiOk ⟨x.t, x.lo, cut, false⟩ p = true := by
        unfold hiOk
        show (false || decide (cm p.1 cut < 0)) = true
        rw [decide_eq_true h]; rfl
      have hP : spanP x p = spanP ⟨x.t, x.lo, cut, false⟩ p := by
        unfold spanP
        rw [hH, hH']
      rw [List.filter_cons, List.filter_cons, List.filter_cons, hB, hP, ih]
      cases spanP ⟨x.t, x.lo, cut, false⟩ p <;> rfl
    · have hge : 0 ≤ cm p.1 cut := by omega
      have hlater : ∀ q ∈ p :: L, spanP ⟨x.t, x.lo, cut, false⟩ q = false := fun q hq => by
        unfold spanP hiOk
        have : 0 ≤ cm q.1 cut := by
          rcases List.mem_cons.1 hq with rfl | hq
          · exact hge
          · refine cm_le_flip.2 (cm_trans _ p.1 _ (cm_le_flip.1 hge) ?_)
            have := s1 q hq; omega
        show (_ && (false || decide (cm q.1 cut < 0))) = false
        rw [decide_eq_false (by omega)]; simp
      have hsame : ∀ q ∈ p :: L, spanP x q = spanP ⟨x.t, cut, x.hi, x.op⟩ q := fun q hq => by
        have hc : 0 ≤ cm q.1 cut := by
          rcases List.mem_cons.1 hq with rfl | hq
          · exact hge
          · refine cm_le_flip.2 (cm_trans _ p.1 _ (cm_le_flip.1 hge) ?_)
            have := s1 q hq; omega
        have hl : 0 ≤ cm q.1 x.lo := cm_le_flip.2 (cm_trans _ cut _ h1 (cm_le_flip.1 hc))
        unfold spanP geP hiOk
        show (decide (0 ≤ cm q.1 x.lo) && _) = (decide (0 ≤ cm q.1 cut) && _)
        rw [decide_eq_true hl, decide_eq_true hc]
      rw [filter_nil' hlater, List.nil_append]
      exact List.filter_congr hsame
theorem scan_parts (d : Nat) (s : Sto) (x : Span) (cut : List UInt8) (st : Int) (h1 : cm x.lo cut ≤ 0) (h2 : x.op = true ∨ cm cut x.hi ≤ 0) :
    scanA d s x st = scanA d s ⟨x.t, x.lo, cut, false⟩ st ++ scanA d s ⟨x.t, cut, x.hi, x.op⟩ st := by
  unfold scanA
  rw [← scanL_app]
  congr 1
  unfold stIn
  split
  · exact part (pairs_sorted d _) x cut h1 h2
  · rfl
/-! ### an end behind all keys -/
def high : List UInt8 := List.replicate 17 255
theorem cm_high : ∀ (n : Nat) (a : List UInt8), a.length < n → cm a (List.replicate n 255) < 0
  | 0, _, h => absurd h (by omega)
  | n + 1, [], _ => by rw [List.replicate_succ, cm_nc]; decide
  | n + 1, x :: a, h => by
    rw [List.replicate_succ, cm_cc]
    split
    · decide
    · rw [if_neg (by rw [UInt8.lt_iff_toNat_lt]; have := x.toNat_lt; show ¬ 255 < x.toNat; omega)]
      exact cm_high n a (by simpa using h)
theorem chkL_short : ∀ (l : List KV) (o : Option (List UInt8)), chkL o l = true → ∀ p ∈ l, p.1.length ≤ 16
  | [], _, _, p, hp => by cases hp
  | q :: l, o, h, p, hp => by
    unfold chkL at h
    split at h
    · cases h
    · rename_i hb
      rcases List.mem_cons.1 hp with rfl | hp
      · unfold keyBad at hb
        simp only [Bool.or_eq_true, decide_eq_true_eq, not_or] at hb
        omega
      · exact chkL_short l _ h p hp
theorem pairs_short (d : Nat) (n : Node) : ∀ p ∈ pairsN d n, p.1.length ≤ 16 := by
  unfold pairsN
  split
  · rename_i h
    unfold checkN at h
    split at h
    · cases h
    · exact chkL_short _ _ h
  · intro p hp; cases hp
theorem scan_high (d : Nat) (s : Sto) (t : Int) (lo h1 h2 : List UInt8) (st : Int) (h : ∀ a : List UInt8, a.length ≤ 16 → cm a h1 < 0) : scanA d s ⟨t, lo, h1, false⟩ st = scanA d s ⟨t, lo, h2, true⟩ st := by
  unfold scanA
  congr 1
  unfold stIn
  split
  · refine List.filter_congr fun q hq => ?_
    unfold spanP hiOk
    show (geP lo q && (false || decide (cm q.1 h1 < 0))) = (geP lo q && (true || _))
    rw [decide_eq_true (h q.1 (pairs_short d _ q hq))]; rfl
  · rfl
theorem scan_none (d : Nat) (s : Sto) (t : Int) (lo : List UInt8) (st : Int) : scanA d s ⟨t, lo, lo, false⟩ st = [] := by
  unfold scanA
  have : stIn d s ⟨t, lo, lo, false⟩ = [] := by
    unfold stIn
    split
    · refine filter_nil' fun q hq => ?_
      unfold spanP geP hiOk
      show (decide (0 ≤ cm q.1 lo) && (false || decide (cm q.1 lo < 0))) = false
      by_cases h : 0 ≤ cm q.1 lo
      · rw [decide_eq_false (show ¬ cm q.1 lo < 0 by omega)]; simp
      · rw [decide_eq_false h]; rfl
    · rfl
  rw [this]; rfl
end Go.Proofs.Ve

/- Stores: the law's own helpers. -/
set_option maxRecDepth 100000
set_option maxHeartbeats 8000000
set_option linter.all false
namespace Go.Proofs.Ve
open Go
def smF (s : Sto) : Nat → Bool
  | 0 => smallN 5 s.a && (smallN 5 s.b && (smallN 5 s.c && smallN 5 s.d))
  | 1 => smallN 5 s.b && (smallN 5 s.c && smallN 5 s.d)
  | 2 => smallN 5 s.c && smallN 5 s.d
  | 3 => smallN 5 s.d
  | _ => true
def smallS (s : Sto) : Bool := smF s 0
theorem smallS_ok {s : Sto} (h : smallS s = true) : sOk 5 s := by
  unfold smallS smF at h
  simp only [Bool.and_eq_true] at h
  exact ⟨smallN_ok 5 _ h.1, smallN_ok 5 _ h.2.1, smallN_ok 5 _ h.2.2.1, smallN_ok 5 _ h.2.2.2⟩
theorem c_Small7 (s : Sto) (H : List (List Blk)) : CallEq X H 7 [pSto s] (.d (.bool (smallS s))) [] := by
  have h := fun n H => d_Small 5 n H (by decide)
  generalize hR : smallS s = R
  refine callEq_of_body X_ok rfl Try.func7 rfl ?_
  conv => whnf
  refine loopV_of (fun i : Nat => ⟨[.any, .ptr 0 0 0, .any, .d (.int .i64 i), .any, .any, .any, .any, .any, .any, .any, .any, .any, .any, .any, .any], [.box s.cells]⟩) (fun i => i ≤ 4 ∧ R = smF s i) (fun i => 4 - i) 0 [0] ⟨by omega, hR.symm⟩ ?_ ?_
  · refine And.intro rfl (And.intro ?_ ?_)
    all_goals (repeat' (first | exact True.intro | exact rfl | refine And.intro ?_ ?_))
  · rintro i ⟨hi, hI⟩
    rcases (show i = 0 ∨ i = 1 ∨ i = 2 ∨ i = 3 ∨ i = 4 by omega) with rfl | rfl | rfl | rfl | rfl
    · conv => whnf
      (first | (refine And.intro (fun q => absurd q (by decide)) (fun _ => ?_); conv => whnf) | (refine And.intro (fun _ => ?_) (fun q => absurd q (by decide)); conv => whnf))
      refine ⟨by decide, by decide, ?_⟩
      conv => whnf
      refine ⟨0, rfl, ?_⟩
      conv => whnf
      refine ⟨_, _, h s.a _, True.intro, ?_⟩
      conv => whnf
      refine And.intro (fun q => ?_) (fun q => ?_) <;> (conv => whnf)
      · refine ⟨[], rfl, ?_, True.intro⟩
        have q : smallN 5 s.a = false := by simpa using q
        rw [hI]
        show DV.bool false = .bool (smallN 5 s.a && _)
        rw [q]; rfl
      · have q : smallN 5 s.a = true := by simpa using q
        intro z hz
        conv => whnf
        rw [wrap_small (by omega) (by omega)] at hz
        subst hz
        refine ⟨1, [0], ⟨by omega, by rw [hI]; show (smallN 5 s.a && _) = _; rw [q]; rfl⟩, by omega, And.intro rfl (And.intro ?_ ?_)⟩
        all_goals (repeat' (first | exact True.intro | exact rfl | refine And.intro ?_ ?_))
    · conv => whnf
      (first | (refine And.intro (fun q => absurd q (by decide)) (fun _ => ?_); conv => whnf) | (refine And.intro (fun _ => ?_) (fun q => absurd q (by decide)); conv => whnf))
      refine ⟨by decide, by decide, ?_⟩
      conv => whnf
      refine ⟨1, rfl, ?_⟩
      conv => whnf
      refine ⟨_, _, h s.b _, True.intro, ?_⟩
      conv => whnf
      refine And.intro (fun q => ?_) (fun q => ?_) <;> (conv => whnf)
      · refine ⟨[], rfl, ?_, True.intro⟩
        have q : smallN 5 s.b = false := by simpa using q
        rw [hI]
        show DV.bool false = .bool (smallN 5 s.b && _)
        rw [q]; rfl
      · have q : smallN 5 s.b = true := by simpa using q
        intro z hz
        conv => whnf
        rw [wrap_small (by omega) (by omega)] at hz
        subst hz
        refine ⟨2, [0], ⟨by omega, by rw [hI]; show (smallN 5 s.b && _) = _; rw [q]; rfl⟩, by omega, And.intro rfl (And.intro ?_ ?_)⟩
        all_goals (repeat' (first | exact True.intro | exact rfl | refine And.intro ?_ ?_))
    · conv => whnf
      (first | (refine And.intro (fun q => absurd q (by decide)) (fun _ => ?_); conv => whnf) | (refine And.intro (fun _ => ?_) (fun q => absurd q (by decide)); conv => whnf))
      refine ⟨by decide, by decide, ?_⟩
      conv => whnf
      refine ⟨2, rfl, ?_⟩
      conv => whnf
      refine ⟨_, _, h s.c _, True.intro, ?_⟩
      conv => whnf
      refine And.intro (fun q => ?_) (fun q => ?_) <;> (conv => whnf)
      · refine ⟨[], rfl, ?_, True.intro⟩
        have q : smallN 5 s.c = false := by simpa using q
        rw [hI]
        show DV.bool false = .bool (smallN 5 s.c && _)
        rw [q]; rfl
      · have q : smallN 5 s.c = true := by simpa using q
        intro z hz
        conv => whnf
        rw [wrap_small (by omega) (by omega)] at hz
        subst hz
        refine ⟨3, [0], ⟨by omega, by rw [hI]; show (smallN 5 s.c && _) = _; rw [q]; rfl⟩, by omega, And.intro rfl (And.intro ?_ ?_)⟩
        all_goals (repeat' (first | exact True.intro | exact rfl | refine And.intro ?_ ?_))
    · conv => whnf
      (first | (refine And.intro (fun q => absurd q (by decide)) (fun _ => ?_); conv => whnf) | (refine And.intro (fun _ => ?_) (fun q => absurd q (by decide)); conv => whnf))
      refine ⟨by decide, by decide, ?_⟩
      conv => whnf
      refine ⟨3, rfl, ?_⟩
      conv => whnf
      refine ⟨_, _, h s.d _, True.intro, ?_⟩
      conv => whnf
      refine And.intro (fun q => ?_) (fun q => ?_) <;> (conv => whnf)
      · refine ⟨[], rfl, ?_, True.intro⟩
        have q : smallN 5 s.d = false := by simpa using q
        rw [hI]
        show DV.bool false = .bool (smallN 5 s.d)
        rw [q]
      · have q : smallN 5 s.d = true := by simpa using q
        intro z hz
        conv => whnf
        rw [wrap_small (by omega) (by omega)] at hz
        subst hz
        refine ⟨4, [0], ⟨by omega, by rw [hI]; show smallN 5 s.d = _; rw [q]; rfl⟩, by omega, And.intro rfl (And.intro ?_ ?_)⟩
        all_goals (repeat' (first | exact True.intro | exact rfl | refine And.intro ?_ ?_))
    · conv => whnf
      (first | (refine And.intro (fun q => absurd q (by decide)) (fun _ => ?_); conv => whnf) | (refine And.intro (fun _ => ?_) (fun q => absurd q (by decide)); conv => whnf))
      refine ⟨[], rfl, ?_, True.intro⟩
      rw [hI]; (repeat' (first | exact True.intro | exact rfl | refine And.intro ?_ ?_))
def shortX (x : Span) : Bool := decide ((x.lo.length : Int) ≤ 100) && decide ((x.hi.length : Int) ≤ 100)
theorem c_short (x : Span) (H : List (List Blk)) : CallEq X H 10 [pSpan x] (.d (.bool (shortX x))) [] := by
  unfold shortX
  refine callEq_of_body X_ok rfl Try.func10 rfl ?_
  conv => whnf
  repeat' (first
    | (refine And.intro (fun h_ => ?_) (fun h_ => ?_) <;> (conv => whnf))
    | (intro z_ hz_; conv => whnf)
    | (refine ⟨[], rfl, ?_, True.intro⟩; (conv => whnf); (first | done | (simp_all only [refP, Bool.not_true, Bool.not_false, Bool.true_and, Bool.false_and, Bool.and_true, Bool.and_false, Bool.true_or, Bool.false_or, Bool.or_true, Bool.or_false, Bool.not_not, Bool.not_eq_true', Bool.not_eq_false', if_true, if_false, Bool.false_eq_true, Bool.true_eq_false, List.length_map]; done)))
    | fail)
def badKP (p q : KP) : Bool := !(eqB p.1 q.1) || !(eqB p.2 q.2)
theorem badKP_self (p : KP) : badKP p p = false := by unfold badKP; rw [eqB_eq, eqB_eq, cm_self, cm_self]; rfl
def sameKP (a b : List KP) : Bool := if ((a.length : Nat) : Int) != ((b.length : Nat) : Int) then false else sameF badKP a b
theorem sameKP_self (l : List KP) : sameKP l l = true := by unfold sameKP; rw [sameF_self badKP_self]; simp
theorem c_pairs (a b : List KP) (ha : a.length < 4294967296) (H : List (List Blk)) : CallEq X H 12 [.d (.sl (a.map cKP)), .d (.sl (b.map cKP))] (.d (.bool (sameKP a b))) [] := by
  unfold sameKP
  refine callEq_of_body X_ok rfl Try.func12 rfl ?_
  conv => whnf
  refine And.intro (fun q => ?_) (fun q => ?_) <;> (conv => whnf)
  · refine ⟨[], rfl, ?_, True.intro⟩
    rw [if_pos (by simpa using q)]; (repeat' (first | exact True.intro | exact rfl | refine And.intro ?_ ?_))
  · have hab : a.length = b.length := by simp at q; omega
    rw [if_neg (by simpa using q)]
    clear q
    generalize hR : sameF badKP a b = R
    refine loopV_of (fun i : Nat => ⟨[.d (.sl (a.map cKP)), .d (.sl (b.map cKP)), .any, .any, .any, .d (.int .i64 i), .any, .any, .any, .any, .any, .any, .any, .any, .any, .any, .any, .any, .any, .any, .any, .any, .any, .any, .any, .any, .any, .any, .any, .any, .any, .any, .any, .any, .any, .any, .any, .any, .any, .any, .any, .any, .any, .any, .any], []⟩)
      (fun i => i ≤ a.length ∧ R = sameF badKP (a.drop i) (b.drop i)) (fun i => a.length - i) 0 [] ⟨Nat.zero_le _, hR.symm⟩ ?_ ?_
    · refine And.intro rfl (And.intro ?_ ?_)
      all_goals (repeat' (first | exact True.intro | exact rfl | refine And.intro ?_ ?_))
    · rintro k ⟨hk, hI⟩
      conv => whnf
      refine And.intro (fun h_ => ?_) (fun h_ => ?_)
      · conv => whnf
        have hk' : k < a.length := by simpa using h_
        obtain ⟨x, hx⟩ : ∃ x, a[k]? = some x := ⟨_, List.getElem?_eq_getElem hk'⟩
        obtain ⟨y, hy⟩ : ∃ x, b[k]? = some x := ⟨_, List.getElem?_eq_getElem (by omega)⟩
        rw [sameF_at hx hy] at hI
        have hI1 : badKP x y = true → R = false := fun h => by rw [hI, if_pos h]
        have hI2 : badKP x y = false → (k + 1 ≤ a.length ∧ R = sameF badKP (a.drop (k + 1)) (b.drop (k + 1))) := fun h => ⟨hk', by rw [hI, if_neg (by rw [h]; exact Bool.false_ne_true)]⟩
        clear hI
        have hge : (0 : Int) ≤ ((k : Nat) : Int) := by omega
        have hgx : (a.map cKP)[((k : Nat) : Int).toNat]? = some (cKP x) := by rw [Int.toNat_natCast, List.getElem?_map, hx]; rfl
        have hgy : (b.map cKP)[((k : Nat) : Int).toNat]? = some (cKP y) := by rw [Int.toNat_natCast, List.getElem?_map, hy]; rfl
        have hw2 : IntKind.i64.wrap (((k : Nat) : Int) + 1) = ((k : Nat) : Int) + 1 := wrap_small (by omega) (by omega)
        have ebad : badKP x y = ((!(eqB x.1 y.1)) || !(eqB x.2 y.2)) := rfl
        rw [ebad] at hI1 hI2
        clear ebad
        unfold eqB toBA at hI1 hI2
        refine ⟨hge, cKP x, hgx, rfl, ?_⟩
        conv => whnf
        refine ⟨x.1, rfl, ?_⟩
        conv => whnf
        refine ⟨hge, cKP y, hgy, rfl, ?_⟩
        conv => whnf
        refine ⟨y.1, rfl, ?_⟩
        conv => whnf
        refine And.intro (fun q => ?_) (fun q => ?_) <;> (conv => whnf)
        · refine ⟨hge, cKP x, hgx, rfl, ?_⟩
          conv => whnf
          refine ⟨x.2, rfl, ?_⟩
          conv => whnf
          refine ⟨hge, cKP y, hgy, rfl, ?_⟩
          conv => whnf
          refine ⟨y.2, rfl, ?_⟩
          conv => whnf
          refine And.intro (fun q1 => ?_) (fun q1 => ?_) <;> (conv => whnf)
          · refine ⟨[], rfl, ?_, True.intro⟩
            have := hI1 (by rw [q]; exact q1)
            rw [this]; (repeat' (first | exact True.intro | exact rfl | refine And.intro ?_ ?_))
          · have := hI2 (by rw [q]; exact q1)
            intro z hz
            conv => whnf
            rw [hw2] at hz
            subst hz
            refine ⟨k + 1, [], this, by omega, And.intro rfl (And.intro ?_ ?_)⟩
            all_goals (repeat' (first | exact True.intro | exact rfl | refine And.intro ?_ ?_))
        · refine ⟨[], rfl, ?_, True.intro⟩
          have := hI1 (by rw [q]; rfl)
          rw [this]; (repeat' (first | exact True.intro | exact rfl | refine And.intro ?_ ?_))
      · conv => whnf
        have hk' : k = a.length := by simp at h_; omega
        refine ⟨[], rfl, ?_, True.intro⟩
        show DV.bool true = .bool R
        rw [hI, hk', List.drop_length]; rfl
end Go.Proofs.Ve

/- StoreScans' walk. -/
set_option maxRecDepth 100000
set_option maxHeartbeats 20000000
set_option linter.all false
namespace Go.Proofs.Ve
open Go
theorem cKP_two (l : List KP) : ∀ y ∈ l.map cKP, y.length = 2 := fun y hy => by simp only [List.mem_map] at hy; obtain ⟨_, _, rfl⟩ := hy; rfl
theorem t_scans (s : Sto) (x : Span) (cut : List UInt8) (st : Int) (H : List (List Blk)) : CallEq X H 4 [pSto s, pSpan x, .d (encB cut), .d (.int .i64 st)] (.d (.bool true)) [] := by
  have hcl : (cut.map fun x : UInt8 => [DV.int .u8 x.toNat]).length = cut.length := List.length_map ..
  cases hs : smallS s with
  | false =>
    have hsm : ∀ H, CallEq X H _ _ _ [] := fun H => hs ▸ c_Small7 s H
    refine callEq_of_body X_ok rfl Try.func4 rfl ?_
    conv => whnf
    refine ⟨_, _, c_awake7 _, True.intro, ?_⟩
    conv => whnf
    refine ⟨_, _, hsm _, True.intro, ?_⟩
    conv => whnf
    repeat' (first
      | (first | (refine And.intro (fun q => absurd q (by decide)) (fun _ => ?_); conv => whnf) | (refine And.intro (fun _ => ?_) (fun q => absurd q (by decide)); conv => whnf))
      | (refine ⟨[], rfl, ?_, True.intro⟩
         (repeat' (first | exact True.intro | exact rfl | refine And.intro ?_ ?_))
         done)
      | fail)
  | true =>
    have hsm : ∀ H, CallEq X H _ _ _ [] := fun H => hs ▸ c_Small7 s H
    have hok := smallS_ok hs
    cases hx : shortX x with
    | false =>
      have hsh : ∀ H, CallEq X H _ _ _ [] := fun H => hx ▸ c_short x H
      refine callEq_of_body X_ok rfl Try.func4 rfl ?_
      conv => whnf
      refine ⟨_, _, c_awake7 _, True.intro, ?_⟩
      conv => whnf
      refine ⟨_, _, hsm _, True.intro, ?_⟩
      conv => whnf
      repeat' (first
        | (first | (refine And.intro (fun q => absurd q (by decide)) (fun _ => ?_); conv => whnf) | (refine And.intro (fun _ => ?_) (fun q => absurd q (by decide)); conv => whnf))
        | (refine ⟨_, _, hsh _, True.intro, ?_⟩; conv => whnf)
        | (refine ⟨[], rfl, ?_, True.intro⟩
           (repeat' (first | exact True.intro | exact rfl | refine And.intro ?_ ?_))
           done)
        | fail)
    | true =>
      have hsh : ∀ H, CallEq X H _ _ _ [] := fun H => hx ▸ c_short x H
      have hlh : x.lo.length ≤ 100 ∧ x.hi.length ≤ 100 := by
        unfold shortX at hx
        simp only [Bool.and_eq_true, decide_eq_true_eq] at hx
        omega
      refine callEq_of_body X_ok rfl Try.func4 rfl ?_
      conv => whnf
      refine ⟨_, _, c_awake7 _, True.intro, ?_⟩
      conv => whnf
      refine ⟨_, _, hsm _, True.intro, ?_⟩
      conv => whnf
      (first | (refine And.intro (fun q => absurd q (by decide)) (fun _ => ?_); conv => whnf) | (refine And.intro (fun _ => ?_) (fun q => absurd q (by decide)); conv => whnf))
      refine ⟨_, _, hsh _, True.intro, ?_⟩
      conv => whnf
      (first | (refine And.intro (fun q => absurd q (by decide)) (fun _ => ?_); conv => whnf) | (refine And.intro (fun _ => ?_) (fun q => absurd q (by decide)); conv => whnf))
      refine And.intro (fun q1 => ?_) (fun q1 => ?_) <;> (conv => whnf)
      rotate_left
      · exact ⟨[], rfl, by (repeat' (first | exact True.intro | exact rfl | refine And.intro ?_ ?_))⟩
      have q1 : cut.length ≤ 100 := by rw [hcl] at q1; have := of_decide_eq_false q1; omega
      refine ⟨cut, rfl, ?_⟩
      conv => whnf
      refine ⟨x.lo, rfl, ?_⟩
      conv => whnf
      refine And.intro (fun q2 => ?_) (fun q2 => ?_) <;> (conv => whnf)
      rotate_left
      · exact ⟨[], rfl, by (repeat' (first | exact True.intro | exact rfl | refine And.intro ?_ ?_))⟩
      have hcut : cm x.lo cut ≤ 0 := by
        have q2 : ltB cut x.lo = false := q2
        rw [ltB_eq] at q2
        have := of_decide_eq_false q2
        have := cm_flip cut x.lo
        omega
      clear q2
      refine And.intro (fun q3 => ?_) (fun q3 => ?_) <;> (conv => whnf)
      rotate_left
      have hop : x.op = true ∨ cm cut x.hi ≤ 0 := .inl (by cases h : x.op with | true => rfl | false => rw [h] at q3; cases q3)
      rotate_left
      refine ⟨cut, rfl, ?_⟩
      conv => whnf
      refine ⟨x.hi, rfl, ?_⟩
      conv => whnf
      refine And.intro (fun q4 => ?_) (fun q4 => ?_) <;> (conv => whnf)
      · exact ⟨[], rfl, by (repeat' (first | exact True.intro | exact rfl | refine And.intro ?_ ?_))⟩
      have hop : x.op = true ∨ cm cut x.hi ≤ 0 := .inr (by
        have q4 : (!(ltB cut x.hi || eqB cut x.hi)) = false := q4
        rw [ltB_eq, eqB_eq] at q4
        simp only [Bool.not_eq_false', Bool.or_eq_true, decide_eq_true_eq] at q4
        omega)
      clear q4
      all_goals
        clear q3
        have hP := scan_parts 5 s x cut st hcut hop
        have hup := fun {i p q} => scanA_up (d := 5) (s := s) (x := x) (st := st) (i := i) (p := p) (q := q)
        have hgt : ∀ p ∈ scanA 5 s x st, ∀ H, CallEq X H 9 [pSto s, .d (.int .i64 x.t), .d (encB p.1), .d (.int .i64 st)] (.tuple [.d (encB p.2), .d (.bool true)]) [] := fun p hp H => by
          have := c_get 5 s x.t p.1 st (by decide) hok H
          rw [scanA_get hok hp] at this; exact this
        have hlen := scanA_len (x := x) (st := st) (d := 5) (by decide) hok
        have c1 := fun H => c_scan 5 s x st (by decide) hok (by omega) (by omega) H
        have c2 := fun H => c_scan 5 s ⟨x.t, x.lo, cut, false⟩ st (by decide) hok (by show x.lo.length ≤ _; omega) (by show cut.length ≤ _; omega) H
        have c3 := fun H => c_scan 5 s ⟨x.t, cut, x.hi, x.op⟩ st (by decide) hok (by show cut.length ≤ _; omega) (by show x.hi.length ≤ _; omega) H
        generalize scanA 5 s x st = L at hP hup hgt hlen c1
        generalize scanA 5 s ⟨x.t, x.lo, cut, false⟩ st = A at hP c2
        generalize scanA 5 s ⟨x.t, cut, x.hi, x.op⟩ st = B at hP c3
        refine ⟨_, _, c1 _, True.intro, ?_⟩
        conv => whnf
        refine ⟨_, _, c2 _, True.intro, ?_⟩
        conv => whnf
        refine ⟨_, _, c3 _, True.intro, ?_⟩
        conv => whnf
        have hLm : (L.map cKP).length = L.length := List.length_map ..
        refine loopV_of (fun i : Nat => ⟨[.any, .any, .d (encB cut), .d (.int .i64 st), .ptr 0 0 0, .ptr 0 1 0, .any, .any, .any, .d (.bool true), .d (.sl (L.map cKP)), .d (.sl (A.map cKP)), .d (.sl (B.map cKP)), .d (.int .i64 i), .any, .any, .any, .any, .any, .any, .any, .any, .any, .any, .any, .any, .any, .any, .any, .any, .any, .any, .any, .any, .any, .any, .any, .any, .any, .any, .any, .any, .any, .any, .any, .any, .any, .any, .any, .any, .any, .any, .any, .any, .any, .any, .any, .any, .any, .any, .any, .any, .any, .any, .any, .any, .any, .any, .any, .any, .any, .any, .any, .any, .any, .any, .any, .any, .any, .any, .any, .any, .any, .any, .any, .any, .any, .any, .any, .any, .any, .any, .any, .any, .any, .any, .any, .any, .any, .any, .any, .any, .any, .any, .any, .any, .any, .any, .any, .any, .any, .any, .any, .any, .any, .any, .any, .any, .any, .any, .any, .any, .any, .any, .any, .any, .any, .any, .any, .any, .any, .any, .any, .any, .any, .any, .any, .any, .any, .any], [.box s.cells, .box [.d (.int .i64 x.t), .d (encB x.lo), .d (encB x.hi), .d (.bool x.op)]]⟩) (fun i => i ≤ L.length) (fun i => L.length - i) 0 [0, 1] (Nat.zero_le _) ?_ ?_
        · refine And.intro rfl (And.intro ?_ ?_)
          all_goals (repeat' (first | exact True.intro | exact rfl | refine And.intro ?_ ?_))
        · intro i hi
          conv => whnf
          refine And.intro (fun q => ?_) (fun q => ?_) <;> (conv => whnf)
          · have hi' : i < L.length := by rw [hLm] at q; simpa using q
            obtain ⟨p, hp⟩ : ∃ p, L[i]? = some p := ⟨_, List.getElem?_eq_getElem hi'⟩
            have hgp : (L.map cKP)[((i : Nat) : Int).toNat]? = some (cKP p) := by rw [Int.toNat_natCast, List.getElem?_map, hp]; rfl
            have hge : (0 : Int) ≤ ((i : Nat) : Int) := by omega
            have w1 : IntKind.i64.wrap (((i : Nat) : Int) + 1) = ((i + 1 : Nat) : Int) := by rw [wrap_small (by omega) (by omega)]; omega
            refine ⟨hge, cKP p, hgp, rfl, ?_⟩
            conv => whnf
            refine ⟨_, _, hgt p (List.mem_of_getElem? hp) _, True.intro, ?_⟩
            conv => whnf
            (first | (refine And.intro (fun q => absurd q (by decide)) (fun _ => ?_); conv => whnf) | (refine And.intro (fun _ => ?_) (fun q => absurd q (by decide)); conv => whnf))
            refine ⟨p.2, rfl, ?_⟩
            conv => whnf
            refine ⟨hge, cKP p, hgp, rfl, ?_⟩
            conv => whnf
            refine ⟨p.2, rfl, ?_⟩
            conv => whnf
            refine And.intro (fun h1 => ?_) (fun h1 => ?_) <;> (conv => whnf)
            · refine And.intro (fun h2 => ?_) (fun h2 => ?_) <;> (conv => whnf)
              · have h2 : 0 < i := by simpa using h2
                obtain ⟨r, hr⟩ : ∃ r, L[i - 1]? = some r := ⟨_, List.getElem?_eq_getElem (by omega)⟩
                have hgr : (L.map cKP)[(((i : Nat) : Int) - 1).toNat]? = some (cKP r) := by rw [show (((i : Nat) : Int) - 1).toNat = i - 1 by omega, List.getElem?_map, hr]; rfl
                have hlt : ltB r.1 p.1 = true := by
                  rw [ltB_eq]
                  exact decide_eq_true (hup hr (by rw [Nat.sub_add_cancel h2]; exact hp))
                intro z hz
                conv => whnf
                rw [wrap_small (by omega) (by omega)] at hz
                subst hz
                refine ⟨by omega, cKP r, hgr, rfl, ?_⟩
                conv => whnf
                refine ⟨r.1, rfl, ?_⟩
                conv => whnf
                refine ⟨hge, cKP p, hgp, rfl, ?_⟩
                conv => whnf
                refine ⟨p.1, rfl, ?_⟩
                conv => whnf
                refine And.intro (fun h3 => ?_) (fun h3 => ?_) <;> (conv => whnf)
                · exfalso
                  have h3 : (!ltB r.1 p.1) = true := h3
                  rw [hlt] at h3; cases h3
                · intro z hz
                  conv => whnf
                  rw [w1] at hz
                  subst hz
                  refine ⟨i + 1, [0, 1], hi', by omega, And.intro rfl (And.intro ?_ ?_)⟩
                  all_goals (repeat' (first | exact True.intro | exact rfl | refine And.intro ?_ ?_))
              · intro z hz
                conv => whnf
                rw [w1] at hz
                subst hz
                refine ⟨i + 1, [0, 1], hi', by omega, And.intro rfl (And.intro ?_ ?_)⟩
                all_goals (repeat' (first | exact True.intro | exact rfl | refine And.intro ?_ ?_))
            · exfalso
              rw [beq_self_eq_true] at h1
              exact absurd h1 (by decide)
          · obtain rfl : i = L.length := by rw [hLm] at q; simp at q; omega
            have hab : L.length = A.length + B.length := by rw [hP, List.length_append]
            refine ⟨cKP_two A, ?_⟩
            conv => whnf
            refine ⟨by simp, by show _ * 48 ≤ _; simp; omega, ?_⟩
            conv => whnf
            refine ⟨cKP_two B, ?_⟩
            conv => whnf
            refine ⟨by simp, by show _ * 48 ≤ _; simp; omega, ?_⟩
            conv => whnf
            have hpr : ∀ H, CallEq X H 12 [.d (.sl (L.map cKP)), .d (.sl (List.take (0 + (A.map cKP).length + (B.map cKP).length) ([] ++ A.map cKP ++ B.map cKP)))] (.d (.bool true)) [] := fun H => by
              have := c_pairs L L hlen H
              rw [sameKP_self] at this
              rw [List.take_of_length_le (by simp), List.nil_append, ← List.map_append, ← hP]
              exact this
            refine ⟨_, _, hpr _, And.intro rfl flat_nil, ?_⟩
            conv => whnf
            repeat' (first
              | (first | (refine And.intro (fun q => absurd q (by decide)) (fun _ => ?_); conv => whnf) | (refine And.intro (fun _ => ?_) (fun q => absurd q (by decide)); conv => whnf))
              | (refine ⟨[], rfl, ?_, True.intro⟩; exact rfl)
              | fail)
end Go.Proofs.Ve

/- StoreOpen's walk. -/
set_option maxRecDepth 100000
set_option maxHeartbeats 20000000
set_option linter.all false
namespace Go.Proofs.Ve
open Go
def ffR (i : Nat) : List (List DV) := List.replicate i [DV.int .u8 255]
theorem ffR_len (i : Nat) : (ffR i).length = i := List.length_replicate ..
theorem ffR_succ (i : Nat) : ffR i ++ [[DV.int .u8 255]] = ffR (i + 1) := by unfold ffR; rw [List.replicate_succ']
theorem ffR_high : DV.sl (ffR 17) = encB high := rfl
theorem t_open (s : Sto) (t : Int) (lo : List UInt8) (st : Int) (H : List (List Blk)) : CallEq X H 5 [pSto s, .d (.int .i64 t), .d (encB lo), .d (.int .i64 st)] (.d (.bool true)) [] := by
  have hcl : (lo.map fun x : UInt8 => [DV.int .u8 x.toNat]).length = lo.length := List.length_map ..
  cases hs : smallS s with
  | false =>
    have hsm : ∀ H, CallEq X H _ _ _ [] := fun H => hs ▸ c_Small7 s H
    refine callEq_of_bodyF X_ok false true (mo := []) (by kernel_rfl) Try.func5 rfl ?_
    conv => whnf
    refine ⟨_, _, (c_awake7 _).md _ _, True.intro, ?_⟩
    conv => whnf
    refine ⟨_, _, (hsm _).md _ _, True.intro, ?_⟩
    conv => whnf
    repeat' (first
      | (first | (refine And.intro (fun q => absurd q (by decide)) (fun _ => ?_); conv => whnf) | (refine And.intro (fun _ => ?_) (fun q => absurd q (by decide)); conv => whnf))
      | (refine ⟨[], rfl, ?_, True.intro⟩
         (repeat' (first | exact True.intro | exact rfl | refine And.intro ?_ ?_))
         done)
      | fail)
  | true =>
    have hsm : ∀ H, CallEq X H _ _ _ [] := fun H => hs ▸ c_Small7 s H
    have hok := smallS_ok hs
    refine callEq_of_bodyF X_ok false true (mo := []) (by kernel_rfl) Try.func5 rfl ?_
    conv => whnf
    refine ⟨_, _, (c_awake7 _).md _ _, True.intro, ?_⟩
    conv => whnf
    refine ⟨_, _, (hsm _).md _ _, True.intro, ?_⟩
    conv => whnf
    (first | (refine And.intro (fun q => absurd q (by decide)) (fun _ => ?_); conv => whnf) | (refine And.intro (fun _ => ?_) (fun q => absurd q (by decide)); conv => whnf))
    refine And.intro (fun q1 => ?_) (fun q1 => ?_) <;> (conv => whnf)
    · exact ⟨[], rfl, by (repeat' (first | exact True.intro | exact rfl | refine And.intro ?_ ?_))⟩
    have q1 : lo.length ≤ 100 := by rw [hcl] at q1; have := of_decide_eq_false q1; omega
    refine loopV_of (fun i : Nat => ⟨[.any, .d (.int .i64 t), .d (encB lo), .d (.int .i64 st), .ptr 0 0 0, .any, .any, .any, .any, .d (.bool true), .row 0 1 i, .d (.int .i64 i), .any, .any, .any, .any, .any, .any, .any, .any, .any, .any, .any, .any, .any, .any, .any, .any, .any, .any, .any, .any, .any, .any, .any, .any, .any, .any, .any, .any, .any, .any, .any, .any, .any, .any, .any, .any, .any, .any, .any, .any, .any, .any, .any, .any, .any, .any, .any, .any, .any, .any, .any, .any, .any, .any, .any, .any, .any, .any, .any, .any, .any, .any, .any, .any, .any, .any, .any, .any, .any, .any, .any, .any, .any, .any, .any, .any, .any, .any, .any, .any, .any, .any, .any, .any, .any, .any, .any, .any, .any, .any, .any, .any, .any, .any, .any, .any, .any, .any, .any, .any, .any, .any, .any, .any, .any], [.box s.cells, .row 5 1 (ffR i)]⟩) (fun i => i ≤ 17) (fun i => 17 - i) 0 [0, 1] (by omega) ?_ ?_
    · refine And.intro rfl (And.intro ?_ ?_)
      all_goals (repeat' (first | exact True.intro | exact rfl | refine And.intro ?_ ?_))
    · intro i hi
      conv => whnf
      refine And.intro (fun q => ?_) (fun q => ?_) <;> (conv => whnf)
      · have hi' : i < 17 := by have := of_decide_eq_true q; omega
        have w1 : IntKind.i64.wrap (((i : Nat) : Int) + 1) = ((i + 1 : Nat) : Int) := by rw [wrap_small (by omega) (by omega)]; omega
        have hfl := ffR_len i
        refine ⟨fun y hy => by simp at hy; subst hy; rfl, ?_⟩
        conv => whnf
        refine ⟨hfl.symm, by (first | omega | (dsimp only; omega) | (simp; done) | (simp; omega)), ?_⟩
        conv => whnf
        intro z hz
        conv => whnf
        rw [w1] at hz
        subst hz
        rw [ffR_succ]
        refine ⟨i + 1, [0, 2], hi', by omega, And.intro rfl (And.intro ?_ ?_)⟩
        all_goals (repeat' (first | exact True.intro | exact rfl | refine And.intro ?_ ?_))
      · obtain rfl : i = 17 := by have := of_decide_eq_false q; omega
        clear q hi
        have hgt : ∀ p ∈ scanA 5 s ⟨t, lo, [], true⟩ st, ∀ H, CallEq X H 9 [pSto s, .d (.int .i64 t), .d (encB p.1), .d (.int .i64 st)] (.tuple [.d (encB p.2), .d (.bool true)]) [] := fun p hp H => by
          have := c_get 5 s t p.1 st (by decide) hok H
          rw [show getA 5 s t p.1 st = some p.2 from scanA_get (x := ⟨t, lo, [], true⟩) hok hp] at this; exact this
        have hup := fun {i p q} => scanA_up (d := 5) (s := s) (x := ⟨t, lo, [], true⟩) (st := st) (i := i) (p := p) (q := q)
        have hlen := scanA_len (x := ⟨t, lo, [], true⟩) (st := st) (d := 5) (by decide) hok
        have c1 := fun H => c_scan 5 s ⟨t, lo, [], true⟩ st (by decide) hok (by show lo.length ≤ _; omega) (Nat.zero_le _) H
        have c2 := fun H => c_scan 5 s ⟨t, lo, high, false⟩ st (by decide) hok (by show lo.length ≤ _; omega) (by show high.length ≤ _; decide) H
        have c3 := fun H => c_scan 5 s ⟨t, lo, lo, false⟩ st (by decide) hok (by show lo.length ≤ _; omega) (by show lo.length ≤ _; omega) H
        rw [scan_high 5 s t lo high [] st (fun a ha => cm_high 17 a (by omega))] at c2
        rw [scan_none] at c3
        generalize scanA 5 s ⟨t, lo, [], true⟩ st = L at hup hgt hlen c1 c2
        refine ⟨_, _, (c1 _).md _ _, True.intro, ?_⟩
        conv => whnf
        have c2' : ∀ H, CallEq X H 11 [pSto s, .agg [.d (.int .i64 t), .d (encB lo), .d (.sl ((ffR 17).take 17)), .d (.bool false)], .d (.int .i64 st)] (.d (.sl (L.map cKP))) [] := c2
        refine ⟨_, _, (c2' _).md _ _, True.intro, ?_⟩
        conv => whnf
        refine ⟨_, _, (c3 _).md _ _, True.intro, ?_⟩
        conv => whnf
        have hLm : (L.map cKP).length = L.length := List.length_map ..
        refine loopV_of (fun i : Nat => ⟨[.any, .d (.int .i64 t), .d (encB lo), .d (.int .i64 st), .ptr 0 0 0, .any, .any, .any, .any, .d (.bool true), .any, .any, .d (.sl (L.map cKP)), .d (.sl (L.map cKP)), .d (.sl []), .d (.int .i64 i), .any, .any, .any, .any, .any, .any, .any, .any, .any, .any, .any, .any, .any, .any, .any, .any, .any, .any, .any, .any, .any, .any, .any, .any, .any, .any, .any, .any, .any, .any, .any, .any, .any, .any, .any, .any, .any, .any, .any, .any, .any, .any, .any, .any, .any, .any, .any, .any, .any, .any, .any, .any, .any, .any, .any, .any, .any, .any, .any, .any, .any, .any, .any, .any, .any, .any, .any, .any, .any, .any, .any, .any, .any, .any, .any, .any, .any, .any, .any, .any, .any, .any, .any, .any, .any, .any, .any, .any, .any, .any, .any, .any, .any, .any, .any, .any, .any, .any, .any, .any, .any], [.box s.cells]⟩) (fun i => i ≤ L.length) (fun i => L.length - i) 0 [0] (Nat.zero_le _) ?_ ?_
        · refine And.intro rfl (And.intro ?_ ?_)
          all_goals (repeat' (first | exact True.intro | exact rfl | refine And.intro ?_ ?_))
        · intro i hi
          conv => whnf
          refine And.intro (fun q => ?_) (fun q => ?_) <;> (conv => whnf)
          · have hi' : i < L.length := by rw [hLm] at q; simpa using q
            obtain ⟨p, hp⟩ : ∃ p, L[i]? = some p := ⟨_, List.getElem?_eq_getElem hi'⟩
            have hgp : (L.map cKP)[((i : Nat) : Int).toNat]? = some (cKP p) := by rw [Int.toNat_natCast, List.getElem?_map, hp]; rfl
            have hge : (0 : Int) ≤ ((i : Nat) : Int) := by omega
            have w1 : IntKind.i64.wrap (((i : Nat) : Int) + 1) = ((i + 1 : Nat) : Int) := by rw [wrap_small (by omega) (by omega)]; omega
            refine ⟨hge, cKP p, hgp, rfl, ?_⟩
            conv => whnf
            refine ⟨_, _, (hgt p (List.mem_of_getElem? hp) _).md _ _, True.intro, ?_⟩
            conv => whnf
            (first | (refine And.intro (fun q => absurd q (by decide)) (fun _ => ?_); conv => whnf) | (refine And.intro (fun _ => ?_) (fun q => absurd q (by decide)); conv => whnf))
            refine ⟨p.2, rfl, ?_⟩
            conv => whnf
            refine ⟨hge, cKP p, hgp, rfl, ?_⟩
            conv => whnf
            refine ⟨p.2, rfl, ?_⟩
            conv => whnf
            refine And.intro (fun h1 => ?_) (fun h1 => ?_) <;> (conv => whnf)
            · refine And.intro (fun h2 => ?_) (fun h2 => ?_) <;> (conv => whnf)
              · have h2 : 0 < i := by simpa using h2
                obtain ⟨r, hr⟩ : ∃ r, L[i - 1]? = some r := ⟨_, List.getElem?_eq_getElem (by omega)⟩
                have hgr : (L.map cKP)[(((i : Nat) : Int) - 1).toNat]? = some (cKP r) := by rw [show (((i : Nat) : Int) - 1).toNat = i - 1 by omega, List.getElem?_map, hr]; rfl
                have hrp : cm r.1 p.1 < 0 := hup hr (by rw [Nat.sub_add_cancel h2]; exact hp)
                have hlt : (ltB p.1 r.1 || eqB p.1 r.1) = false := by
                  rw [ltB_eq, eqB_eq]
                  have := cm_flip r.1 p.1
                  rw [decide_eq_false (by omega), decide_eq_false (by omega)]; rfl
                refine ⟨hge, cKP p, hgp, rfl, ?_⟩
                conv => whnf
                refine ⟨p.1, rfl, ?_⟩
                conv => whnf
                intro z hz
                conv => whnf
                rw [wrap_small (by omega) (by omega)] at hz
                subst hz
                refine ⟨by omega, cKP r, hgr, rfl, ?_⟩
                conv => whnf
                refine ⟨r.1, rfl, ?_⟩
                conv => whnf
                refine And.intro (fun h3 => ?_) (fun h3 => ?_) <;> (conv => whnf)
                · exfalso
                  have h3 : (ltB p.1 r.1 || eqB p.1 r.1) = true := h3
                  rw [hlt] at h3; cases h3
                · intro z hz
                  conv => whnf
                  rw [w1] at hz
                  subst hz
                  refine ⟨i + 1, [0], hi', by omega, And.intro rfl (And.intro ?_ ?_)⟩
                  all_goals (repeat' (first | exact True.intro | exact rfl | refine And.intro ?_ ?_))
              · intro z hz
                conv => whnf
                rw [w1] at hz
                subst hz
                refine ⟨i + 1, [0], hi', by omega, And.intro rfl (And.intro ?_ ?_)⟩
                all_goals (repeat' (first | exact True.intro | exact rfl | refine And.intro ?_ ?_))
            · exfalso
              rw [beq_self_eq_true] at h1
              exact absurd h1 (by decide)
          · have hpr : ∀ H, CallEq X H 12 [.d (.sl (L.map cKP)), .d (.sl (L.map cKP))] (.d (.bool true)) [] := fun H => by
              have := c_pairs L L hlen H
              rw [sameKP_self] at this
              exact this
            repeat' (first
              | (first | (refine And.intro (fun q => absurd q (by decide)) (fun _ => ?_); conv => whnf) | (refine And.intro (fun _ => ?_) (fun q => absurd q (by decide)); conv => whnf))
              | (refine ⟨_, _, (hpr _).md _ _, True.intro, ?_⟩; conv => whnf)
              | (refine ⟨[], rfl, ?_, True.intro⟩; exact rfl)
              | fail)
end Go.Proofs.Ve

/- The row of StoreOpen: its walk's contract, lifted. -/
set_option linter.all false
set_option maxRecDepth 100000
namespace Go.Proofs.Ytakdijnmhffemaa.storeOpen
open Go Go.Proofs.Ve Go.ChangeShapes Go.WideShapes Go.ChangeAt Go.RowKit
theorem own : ownKnob Try.prog.godebug = none := by kernel_rfl
theorem laidOut : laidOutB Try.prog = true := by kernel_rfl
theorem lifted (os : Os) (started : os.Started) (H : Type) (enc : TypeId × Value → H) :
    ReturnsInHanded {} Try.checked os 5 .any (Rows.storeOpenSpec.pre6 enc Try.prog Try.f5 Rows.storeOpenRow.domain false) (Rows.storeOpenSpec.post enc Try.prog Try.f5 false true false false) := by
  refine returnsInHanded_of_change_sized (C := Try.checked) own started (by kernel_rfl) Try.func5
    (ChangeSpec.witness6 (enc := enc) (C := Try.checked) false ⟨#[], #[.agg #[.slice none 0 0, .slice none 0 0, .slice none 0 0, .slice none 0 0, .slice none 0 0, .slice none 0 0, .slice none 0 0, .slice none 0 0, .slice none 0 0, .slice none 0 0, .slice none 0 0, .slice none 0 0], .int .i64 0, .slice none 0 0, .int .i64 0], []⟩ 8 (by kernel_rfl) (by kernel_rfl) (by kernel_rfl) (by kernel_rfl)) ?_
  intro W base args ds gs before hval0 hW hcnd hsz0 _
  have hval : ∀ (j : Nat) t v, Try.f5.params[j]? = some t → args[j]? = some v → Value.okWide Try.prog W .any base t v := hval0
  have hW' := hW
  obtain ⟨p, q, hA0, hV, rfl, hfz, hnd⟩ := hW
  have hA : DataW.TrodAll enc Try.prog W 0 (fun _ => true) true Try.f5.params.toList args.toList ds p := hA0
  rw [Try.params5] at hA hval
  obtain ⟨v0, vs0, d0, ds0, p0, q0, hargs, rfl, rfl, h0, r0⟩ := trodAll_cons hA
  obtain ⟨v1, vs1, d1, ds1, p1, q1, rfl, rfl, rfl, h1, r1⟩ := trodAll_cons r0
  obtain ⟨v2, vs2, d2, ds2, p2, q2, rfl, rfl, rfl, h2, r2⟩ := trodAll_cons r1
  obtain ⟨v3, vs3, d3, ds3, p3, q3, rfl, rfl, rfl, h3, r3⟩ := trodAll_cons r2
  obtain ⟨rfl, rfl, rfl⟩ := trodAll_nil r3
  obtain rfl : args = #[v0, v1, v2, v3] := by cases args; simp_all
  obtain ⟨rfl, rfl⟩ := trodVars_none hV
  obtain ⟨x0, rp0⟩ := sto_arg (hval 0 _ v0 rfl rfl) h0
  have lt0 : ∀ x ∈ p0, x.block < W.heap.size := by obtain ⟨m, hm⟩ := h0; exact DataW.trod_lt m _ _ _ hm
  obtain ⟨e1, fit1, rp1⟩ := arg_reads 12 (r := [.int .i64]) (by kernel_rfl) (hval 1 _ v1 rfl rfl) h1
  obtain ⟨x1, hx1, hw1⟩ := fit_int fit1
  have rp1 : RP (m0 W) _ v1 := hx1 ▸ rp1
  have lt1 : ∀ x ∈ p1, x.block < W.heap.size := by obtain ⟨m, hm⟩ := h1; exact DataW.trod_lt m _ _ _ hm
  obtain ⟨e2, fit2, rp2⟩ := arg_reads 12 (r := [.sl [.int .u8]]) (by kernel_rfl) (hval 2 _ v2 rfl rfl) h2
  obtain ⟨x2, hx2⟩ := fit_pbytes fit2
  have rp2 : RP (m0 W) _ v2 := hx2 ▸ rp2
  have lt2 : ∀ x ∈ p2, x.block < W.heap.size := by obtain ⟨m, hm⟩ := h2; exact DataW.trod_lt m _ _ _ hm
  obtain ⟨e3, fit3, rp3⟩ := arg_reads 12 (r := [.int .i64]) (by kernel_rfl) (hval 3 _ v3 rfl rfl) h3
  obtain ⟨x3, hx3, hw3⟩ := fit_int fit3
  have rp3 : RP (m0 W) _ v3 := hx3 ▸ rp3
  have lt3 : ∀ x ∈ p3, x.block < W.heap.size := by obtain ⟨m, hm⟩ := h3; exact DataW.trod_lt m _ _ _ hm
  have call : Calls Try.prog 5 #[v0, v1, v2, v3] W fun e W' => e = .returned (.bool true) ∧ Below W.heap.size W W' := by
    refine CallEq.calls (t_open x0 x1 x2 x3 []) rfl ?_
    intro j p v hp hv
    match j with
    | 0 => cases hp; cases hv; exact rp0
    | 1 => cases hp; cases hv; exact rp1
    | 2 => cases hp; cases hv; exact rp2
    | 3 => cases hp; cases hv; exact rp3
    | j + 4 => cases hp
  refine call.mono fun e W' ⟨he, bel⟩ => ?_
  subst he
  exact ⟨_, rfl, _, _, _, [], _, [], hW', trodAll_mk1 (shut_bool Try.underlying4 _), (trodAll_cons_mk (Below.trod laidOut (by kernel_rfl) (of_decide_eq_true (by kernel_rfl)) h0 bel lt0) (trodAll_cons_mk (Below.trod laidOut (by kernel_rfl) (of_decide_eq_true (by kernel_rfl)) h1 bel lt1) (trodAll_cons_mk (Below.trod laidOut (by kernel_rfl) (of_decide_eq_true (by kernel_rfl)) h2 bel lt2) (trodAll_cons_mk (Below.trod laidOut (by kernel_rfl) (of_decide_eq_true (by kernel_rfl)) h3 bel lt3) trodAll_mk0)))), rfl, bel.frame _, fun h => by cases h⟩
theorem over : Rows.storeOpenRow.holds Try.pinned (OpenSpec.ofChange Rows.storeOpenSpec) :=
  OpenClaim.holds_of_wide 5 Try.f5 rfl rfl rfl rfl rfl rfl rfl ⟨rfl, rfl, rfl, rfl, rfl⟩ rfl rfl rfl rfl rfl (by kernel_rfl) Try.func5 (by kernel_rfl)
    (of_decide_eq_true (by kernel_rfl)) (by unfold Func.isWrapper; first | (rw [if_pos (by decide +kernel)]; kernel_rfl) | (rw [if_neg (by decide +kernel)]; exact ⟨rfl, rfl⟩))
    (fun os started H enc _ => lifted os started H enc)
theorem proved : Rows.StoreOpenSaid := over
#print axioms proved
end Go.Proofs.Ytakdijnmhffemaa.storeOpen
namespace Go.Proofs.Ytakdijnmhffemaa
/-- The row, under a short name, for the claim. -/
theorem storeOpen_holds : Rows.StoreOpenSaid := storeOpen.proved
end Go.Proofs.Ytakdijnmhffemaa
