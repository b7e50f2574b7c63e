/- TreeAgain, part 7 of 7. WHAT IS PROVED: TreeAgain: whatever the input, the law returns true, and the input reads as it did. No condition. -/
import Derived.Test.YtingjgfoihjelaaRows
import Derived.WalkKit
import Derived.ProofKit
import Derived.OpenShut
import Derived.ShutString
import Derived.ChangeOld
import Derived.Below
import Derived.SizedLaws
import Derived.Carry
import Derived.Test.YtingjgfoihjelaaTreeAgainJ1
import Derived.Test.YtingjgfoihjelaaTreeAgainJ2
import Derived.Test.YtingjgfoihjelaaTreeAgainJ3
import Derived.Test.YtingjgfoihjelaaTreeAgainJ4
import Derived.Test.YtingjgfoihjelaaTreeAgainJ5
import Derived.Test.YtingjgfoihjelaaTreeAgainJ6
set_option maxRecDepth 100000
set_option maxHeartbeats 20000000
set_option linter.all false
open List renaming getElem?_eq_some_iff -> aAe, getElem?_eq_getElem -> aAf, mem_of_getElem? -> aAg, length_map -> aAh, getElem?_map -> aAi, getElem?_append_right -> aAj, getElem?_append_left -> aAk, length_take -> aAl, length_append -> aAm, length_cons -> aAn, length_nil -> aAo, length_set -> aAp, length_drop -> aAq, getElem?_set_self -> aAr, getElem?_set_ne -> aAs, take_of_length_le -> aAt, mem_cons_self -> aAu, mem_cons_of_mem -> aAv, take_length -> aAw, map_map -> aAx, mem_singleton -> aAy, drop_eq_nil_of_le -> aAz, getElem?_take -> aA0, getElem?_drop -> aA1, getD_eq_getElem?_getD -> aA2, pairwise_cons -> aA3, pairwise_append -> aA4, mem_append -> aA5, mem_of_mem_take -> aA6, mem_of_mem_drop -> aA7, mem_flatMap -> aA8, getElem?_cons_zero -> aA9, getElem?_cons_succ -> aBa, append_assoc -> aBb, mem_map -> aBc, all_eq_true -> aBd, mem_range -> aBe, getElem_mem -> aBf, drop_eq_getElem_cons -> aBg, length_replicate -> aBh, getElem?_toArray -> aBx, mem_iff_getElem? -> aB4
open Int renaming toNat_natCast -> aBi
open Nat renaming eq_of_beq_eq_true -> aBj, lt_of_lt_of_le -> aBk, lt_or_ge -> aBl, lt_succ_self -> aBm, zero_le -> aBn, le_refl -> aBo, le_trans -> aBp, le_succ -> aBu, sub_self -> aB2, add_sub_cancel -> aB3
open Option renaming map_eq_some_iff -> aBq, map_some -> aBz, getD_some -> aB0
open Option.some renaming inj -> aBr
open Bool renaming and_eq_true -> aBs, false_ne_true -> aBt, or_eq_true -> aB1
open Array renaming getElem?_toList -> aBv, getElem?_eq_some_iff -> aBw, length_toList -> aBy
namespace Go.Proofs.Ve
open Go
def mo12:List (Nat × Tr):=[(2,.cut (.alt 0 (.alt 1 (.alt 2 (.alt 3 (.alt 4 (.alt 5 (.alt 6 (.alt 7 (.alt 8 (.alt 9 (.alt 10 .fin .none) .none) .none) .none) .none) .none) (.alt 8 (.alt 4 (.alt 5 (.alt 6 (.alt 7 (.alt 9 (.alt 10 .fin .none) .none) .none) .none) .none) .none) .none)) (.alt 8 (.alt 3 (.alt 4 (.alt 5 (.alt 6 (.alt 7 (.alt 9 (.alt 10 .fin .none) .none) .none) .none) .none) .none) .none) .none)) (.alt 3 (.alt 2 (.alt 4 (.alt 5 (.alt 6 (.alt 7 (.alt 8 (.alt 9 (.alt 10 .fin .none) .none) .none) .none) .none) .none) (.alt 8 (.alt 4 (.alt 5 (.alt 6 (.alt 7 (.alt 9 (.alt 10 .fin .none) .none) .none) .none) .none) .none) .none)) (.alt 8 (.alt 2 (.alt 4 (.alt 5 (.alt 6 (.alt 7 (.alt 9 (.alt 10 .fin .none) .none) .none) .none) .none) .none) .none) .none)) (.alt 8 (.alt 2 (.alt 3 (.alt 4 (.alt 5 (.alt 6 (.alt 7 (.alt 9 (.alt 10 .fin .none) .none) .none) .none) .none) .none) .none) (.alt 3 (.alt 2 (.alt 4 (.alt 5 (.alt 6 (.alt 7 (.alt 9 (.alt 10 .fin .none) .none) .none) .none) .none) .none) .none) .none)) .none))) (.alt 3 (.alt 1 (.alt 2 (.alt 4 (.alt 5 (.alt 6 (.alt 7 (.alt 8 (.alt 9 (.alt 10 .fin .none) .none) .none) .none) .none) .none) (.alt 8 (.alt 4 (.alt 5 (.alt 6 (.alt 7 (.alt 9 (.alt 10 .fin .none) .none) .none) .none) .none) .none) .none)) (.alt 8 (.alt 2 (.alt 4 (.alt 5 (.alt 6 (.alt 7 (.alt 9 (.alt 10 .fin .none) .none) .none) .none) .none) .none) .none) .none)) (.alt 8 (.alt 1 (.alt 2 (.alt 4 (.alt 5 (.alt 6 (.alt 7 (.alt 9 (.alt 10 .fin .none) .none) .none) .none) .none) .none) .none) .none) .none)) (.alt 8 (.alt 1 (.alt 2 (.alt 3 (.alt 4 (.alt 5 (.alt 6 (.alt 7 (.alt 9 (.alt 10 .fin .none) .none) .none) .none) .none) .none) .none) (.alt 3 (.alt 2 (.alt 4 (.alt 5 (.alt 6 (.alt 7 (.alt 9 (.alt 10 .fin .none) .none) .none) .none) .none) .none) .none) .none)) (.alt 3 (.alt 1 (.alt 2 (.alt 4 (.alt 5 (.alt 6 (.alt 7 (.alt 9 (.alt 10 .fin .none) .none) .none) .none) .none) .none) .none) .none) .none)) .none))) (.alt 1 (.alt 0 (.alt 2 (.alt 3 (.alt 4 (.alt 5 (.alt 6 (.alt 7 (.alt 8 (.alt 9 (.alt 10 .fin .none) .none) .none) .none) .none) .none) (.alt 8 (.alt 4 (.alt 5 (.alt 6 (.alt 7 (.alt 9 (.alt 10 .fin .none) .none) .none) .none) .none) .none) .none)) (.alt 8 (.alt 3 (.alt 4 (.alt 5 (.alt 6 (.alt 7 (.alt 9 (.alt 10 .fin .none) .none) .none) .none) .none) .none) .none) .none)) (.alt 3 (.alt 2 (.alt 4 (.alt 5 (.alt 6 (.alt 7 (.alt 8 (.alt 9 (.alt 10 .fin .none) .none) .none) .none) .none) .none) (.alt 8 (.alt 4 (.alt 5 (.alt 6 (.alt 7 (.alt 9 (.alt 10 .fin .none) .none) .none) .none) .none) .none) .none)) (.alt 8 (.alt 2 (.alt 4 (.alt 5 (.alt 6 (.alt 7 (.alt 9 (.alt 10 .fin .none) .none) .none) .none) .none) .none) .none) .none)) (.alt 8 (.alt 2 (.alt 3 (.alt 4 (.alt 5 (.alt 6 (.alt 7 (.alt 9 (.alt 10 .fin .none) .none) .none) .none) .none) .none) .none) (.alt 3 (.alt 2 (.alt 4 (.alt 5 (.alt 6 (.alt 7 (.alt 9 (.alt 10 .fin .none) .none) .none) .none) .none) .none) .none) .none)) .none))) (.alt 2 (.alt 0 (.alt 3 (.alt 4 (.alt 5 (.alt 6 (.alt 7 (.alt 8 (.alt 9 (.alt 10 .fin .none) .none) .none) .none) .none) .none) (.alt 8 (.alt 4 (.alt 5 (.alt 6 (.alt 7 (.alt 9 (.alt 10 .fin .none) .none) .none) .none) .none) .none) .none)) (.alt 8 (.alt 3 (.alt 4 (.alt 5 (.alt 6 (.alt 7 (.alt 9 (.alt 10 .fin .none) .none) .none) .none) .none) .none) .none) .none)) (.alt 3 (.alt 0 (.alt 4 (.alt 5 (.alt 6 (.alt 7 (.alt 8 (.alt 9 (.alt 10 .fin .none) .none) .none) .none) .none) .none) (.alt 8 (.alt 4 (.alt 5 (.alt 6 (.alt 7 (.alt 9 (.alt 10 .fin .none) .none) .none) .none) .none) .none) .none)) (.alt 8 (.alt 0 (.alt 4 (.alt 5 (.alt 6 (.alt 7 (.alt 9 (.alt 10 .fin .none) .none) .none) .none) .none) .none) .none) .none)) (.alt 8 (.alt 0 (.alt 3 (.alt 4 (.alt 5 (.alt 6 (.alt 7 (.alt 9 (.alt 10 .fin .none) .none) .none) .none) .none) .none) .none) (.alt 3 (.alt 0 (.alt 4 (.alt 5 (.alt 6 (.alt 7 (.alt 9 (.alt 10 .fin .none) .none) .none) .none) .none) .none) .none) .none)) .none))) (.alt 3 (.alt 0 (.alt 2 (.alt 4 (.alt 5 (.alt 6 (.alt 7 (.alt 8 (.alt 9 (.alt 10 .fin .none) .none) .none) .none) .none) .none) (.alt 8 (.alt 4 (.alt 5 (.alt 6 (.alt 7 (.alt 9 (.alt 10 .fin .none) .none) .none) .none) .none) .none) .none)) (.alt 8 (.alt 2 (.alt 4 (.alt 5 (.alt 6 (.alt 7 (.alt 9 (.alt 10 .fin .none) .none) .none) .none) .none) .none) .none) .none)) (.alt 2 (.alt 0 (.alt 4 (.alt 5 (.alt 6 (.alt 7 (.alt 8 (.alt 9 (.alt 10 .fin .none) .none) .none) .none) .none) .none) (.alt 8 (.alt 4 (.alt 5 (.alt 6 (.alt 7 (.alt 9 (.alt 10 .fin .none) .none) .none) .none) .none) .none) .none)) (.alt 8 (.alt 0 (.alt 4 (.alt 5 (.alt 6 (.alt 7 (.alt 9 (.alt 10 .fin .none) .none) .none) .none) .none) .none) .none) .none)) (.alt 8 (.alt 0 (.alt 2 (.alt 4 (.alt 5 (.alt 6 (.alt 7 (.alt 9 (.alt 10 .fin .none) .none) .none) .none) .none) .none) .none) (.alt 2 (.alt 0 (.alt 4 (.alt 5 (.alt 6 (.alt 7 (.alt 9 (.alt 10 .fin .none) .none) .none) .none) .none) .none) .none) .none)) .none))) (.alt 8 (.alt 0 (.alt 2 (.alt 3 (.alt 4 (.alt 5 (.alt 6 (.alt 7 (.alt 9 (.alt 10 .fin .none) .none) .none) .none) .none) .none) .none) (.alt 3 (.alt 2 (.alt 4 (.alt 5 (.alt 6 (.alt 7 (.alt 9 (.alt 10 .fin .none) .none) .none) .none) .none) .none) .none) .none)) (.alt 2 (.alt 0 (.alt 3 (.alt 4 (.alt 5 (.alt 6 (.alt 7 (.alt 9 (.alt 10 .fin .none) .none) .none) .none) .none) .none) .none) (.alt 3 (.alt 0 (.alt 4 (.alt 5 (.alt 6 (.alt 7 (.alt 9 (.alt 10 .fin .none) .none) .none) .none) .none) .none) .none) .none)) (.alt 3 (.alt 0 (.alt 2 (.alt 4 (.alt 5 (.alt 6 (.alt 7 (.alt 9 (.alt 10 .fin .none) .none) .none) .none) .none) .none) .none) (.alt 2 (.alt 0 (.alt 4 (.alt 5 (.alt 6 (.alt 7 (.alt 9 (.alt 10 .fin .none) .none) .none) .none) .none) .none) .none) .none)) .none))) .none)))) (.alt 3 (.alt 0 (.alt 1 (.alt 2 (.alt 4 (.alt 5 (.alt 6 (.alt 7 (.alt 8 (.alt 9 (.alt 10 .fin .none) .none) .none) .none) .none) .none) (.alt 8 (.alt 4 (.alt 5 (.alt 6 (.alt 7 (.alt 9 (.alt 10 .fin .none) .none) .none) .none) .none) .none) .none)) (.alt 8 (.alt 2 (.alt 4 (.alt 5 (.alt 6 (.alt 7 (.alt 9 (.alt 10 .fin .none) .none) .none) .none) .none) .none) .none) .none)) (.alt 8 (.alt 1 (.alt 2 (.alt 4 (.alt 5 (.alt 6 (.alt 7 (.alt 9 (.alt 10 .fin .none) .none) .none) .none) .none) .none) .none) .none) .none)) (.alt 1 (.alt 0 (.alt 2 (.alt 4 (.alt 5 (.alt 6 (.alt 7 (.alt 8 (.alt 9 (.alt 10 .fin .none) .none) .none) .none) .none) .none) (.alt 8 (.alt 4 (.alt 5 (.alt 6 (.alt 7 (.alt 9 (.alt 10 .fin .none) .none) .none) .none) .none) .none) .none)) (.alt 8 (.alt 2 (.alt 4 (.alt 5 (.alt 6 (.alt 7 (.alt 9 (.alt 10 .fin .none) .none) .none) .none) .none) .none) .none) .none)) (.alt 2 (.alt 0 (.alt 4 (.alt 5 (.alt 6 (.alt 7 (.alt 8 (.alt 9 (.alt 10 .fin .none) .none) .none) .none) .none) .none) (.alt 8 (.alt 4 (.alt 5 (.alt 6 (.alt 7 (.alt 9 (.alt 10 .fin .none) .none) .none) .none) .none) .none) .none)) (.alt 8 (.alt 0 (.alt 4 (.alt 5 (.alt 6 (.alt 7 (.alt 9 (.alt 10 .fin .none) .none) .none) .none) .none) .none) .none) .none)) (.alt 8 (.alt 0 (.alt 2 (.alt 4 (.alt 5 (.alt 6 (.alt 7 (.alt 9 (.alt 10 .fin .none) .none) .none) .none) .none) .none) .none) (.alt 2 (.alt 0 (.alt 4 (.alt 5 (.alt 6 (.alt 7 (.alt 9 (.alt 10 .fin .none) .none) .none) .none) .none) .none) .none) .none)) .none))) (.alt 8 (.alt 0 (.alt 1 (.alt 2 (.alt 4 (.alt 5 (.alt 6 (.alt 7 (.alt 9 (.alt 10 .fin .none) .none) .none) .none) .none) .none) .none) .none) (.alt 1 (.alt 0 (.alt 2 (.alt 4 (.alt 5 (.alt 6 (.alt 7 (.alt 9 (.alt 10 .fin .none) .none) .none) .none) .none) .none) .none) (.alt 2 (.alt 0 (.alt 4 (.alt 5 (.alt 6 (.alt 7 (.alt 9 (.alt 10 .fin .none) .none) .none) .none) .none) .none) .none) .none)) .none)) .none))) (.alt 8 (.alt 0 (.alt 1 (.alt 2 (.alt 3 (.alt 4 (.alt 5 (.alt 6 (.alt 7 (.alt 9 (.alt 10 .fin .none) .none) .none) .none) .none) .none) .none) (.alt 3 (.alt 2 (.alt 4 (.alt 5 (.alt 6 (.alt 7 (.alt 9 (.alt 10 .fin .none) .none) .none) .none) .none) .none) .none) .none)) (.alt 3 (.alt 1 (.alt 2 (.alt 4 (.alt 5 (.alt 6 (.alt 7 (.alt 9 (.alt 10 .fin .none) .none) .none) .none) .none) .none) .none) .none) .none)) (.alt 1 (.alt 0 (.alt 2 (.alt 3 (.alt 4 (.alt 5 (.alt 6 (.alt 7 (.alt 9 (.alt 10 .fin .none) .none) .none) .none) .none) .none) .none) (.alt 3 (.alt 2 (.alt 4 (.alt 5 (.alt 6 (.alt 7 (.alt 9 (.alt 10 .fin .none) .none) .none) .none) .none) .none) .none) .none)) (.alt 2 (.alt 0 (.alt 3 (.alt 4 (.alt 5 (.alt 6 (.alt 7 (.alt 9 (.alt 10 .fin .none) .none) .none) .none) .none) .none) .none) (.alt 3 (.alt 0 (.alt 4 (.alt 5 (.alt 6 (.alt 7 (.alt 9 (.alt 10 .fin .none) .none) .none) .none) .none) .none) .none) .none)) (.alt 3 (.alt 0 (.alt 2 (.alt 4 (.alt 5 (.alt 6 (.alt 7 (.alt 9 (.alt 10 .fin .none) .none) .none) .none) .none) .none) .none) (.alt 2 (.alt 0 (.alt 4 (.alt 5 (.alt 6 (.alt 7 (.alt 9 (.alt 10 .fin .none) .none) .none) .none) .none) .none) .none) .none)) .none))) (.alt 3 (.alt 0 (.alt 1 (.alt 2 (.alt 4 (.alt 5 (.alt 6 (.alt 7 (.alt 9 (.alt 10 .fin .none) .none) .none) .none) .none) .none) .none) .none) (.alt 1 (.alt 0 (.alt 2 (.alt 4 (.alt 5 (.alt 6 (.alt 7 (.alt 9 (.alt 10 .fin .none) .none) .none) .none) .none) .none) .none) (.alt 2 (.alt 0 (.alt 4 (.alt 5 (.alt 6 (.alt 7 (.alt 9 (.alt 10 .fin .none) .none) .none) .none) .none) .none) .none) .none)) .none)) .none))) .none))))),(9,.cut (.alt 0 (.alt 1 (.alt 2 (.alt 3 (.alt 4 (.alt 5 (.alt 6 (.alt 7 (.alt 8 (.alt 9 .fin .none) .none) .none) .none) .none) .none) (.alt 7 (.alt 3 (.alt 4 (.alt 5 (.alt 6 (.alt 8 (.alt 9 .fin .none) .none) .none) .none) .none) .none) .none)) (.alt 7 (.alt 2 (.alt 3 (.alt 4 (.alt 5 (.alt 6 (.alt 8 (.alt 9 .fin .none) .none) .none) .none) .none) .none) .none) .none)) (.alt 2 (.alt 1 (.alt 3 (.alt 4 (.alt 5 (.alt 6 (.alt 7 (.alt 8 (.alt 9 .fin .none) .none) .none) .none) .none) .none) (.alt 7 (.alt 3 (.alt 4 (.alt 5 (.alt 6 (.alt 8 (.alt 9 .fin .none) .none) .none) .none) .none) .none) .none)) (.alt 7 (.alt 1 (.alt 3 (.alt 4 (.alt 5 (.alt 6 (.alt 8 (.alt 9 .fin .none) .none) .none) .none) .none) .none) .none) .none)) (.alt 7 (.alt 1 (.alt 2 (.alt 3 (.alt 4 (.alt 5 (.alt 6 (.alt 8 (.alt 9 .fin .none) .none) .none) .none) .none) .none) .none) (.alt 2 (.alt 1 (.alt 3 (.alt 4 (.alt 5 (.alt 6 (.alt 8 (.alt 9 .fin .none) .none) .none) .none) .none) .none) .none) .none)) .none))) (.alt 1 (.alt 0 (.alt 2 (.alt 3 (.alt 4 (.alt 5 (.alt 6 (.alt 7 (.alt 8 (.alt 9 .fin .none) .none) .none) .none) .none) .none) (.alt 7 (.alt 3 (.alt 4 (.alt 5 (.alt 6 (.alt 8 (.alt 9 .fin .none) .none) .none) .none) .none) .none) .none)) (.alt 7 (.alt 2 (.alt 3 (.alt 4 (.alt 5 (.alt 6 (.alt 8 (.alt 9 .fin .none) .none) .none) .none) .none) .none) .none) .none)) (.alt 2 (.alt 0 (.alt 3 (.alt 4 (.alt 5 (.alt 6 (.alt 7 (.alt 8 (.alt 9 .fin .none) .none) .none) .none) .none) .none) (.alt 7 (.alt 3 (.alt 4 (.alt 5 (.alt 6 (.alt 8 (.alt 9 .fin .none) .none) .none) .none) .none) .none) .none)) (.alt 7 (.alt 0 (.alt 3 (.alt 4 (.alt 5 (.alt 6 (.alt 8 (.alt 9 .fin .none) .none) .none) .none) .none) .none) .none) .none)) (.alt 7 (.alt 0 (.alt 2 (.alt 3 (.alt 4 (.alt 5 (.alt 6 (.alt 8 (.alt 9 .fin .none) .none) .none) .none) .none) .none) .none) (.alt 2 (.alt 0 (.alt 3 (.alt 4 (.alt 5 (.alt 6 (.alt 8 (.alt 9 .fin .none) .none) .none) .none) .none) .none) .none) .none)) .none))) (.alt 2 (.alt 0 (.alt 1 (.alt 3 (.alt 4 (.alt 5 (.alt 6 (.alt 7 (.alt 8 (.alt 9 .fin .none) .none) .none) .none) .none) .none) (.alt 7 (.alt 3 (.alt 4 (.alt 5 (.alt 6 (.alt 8 (.alt 9 .fin .none) .none) .none) .none) .none) .none) .none)) (.alt 7 (.alt 1 (.alt 3 (.alt 4 (.alt 5 (.alt 6 (.alt 8 (.alt 9 .fin .none) .none) .none) .none) .none) .none) .none) .none)) (.alt 1 (.alt 0 (.alt 3 (.alt 4 (.alt 5 (.alt 6 (.alt 7 (.alt 8 (.alt 9 .fin .none) .none) .none) .none) .none) .none) (.alt 7 (.alt 3 (.alt 4 (.alt 5 (.alt 6 (.alt 8 (.alt 9 .fin .none) .none) .none) .none) .none) .none) .none)) (.alt 7 (.alt 0 (.alt 3 (.alt 4 (.alt 5 (.alt 6 (.alt 8 (.alt 9 .fin .none) .none) .none) .none) .none) .none) .none) .none)) (.alt 7 (.alt 0 (.alt 1 (.alt 3 (.alt 4 (.alt 5 (.alt 6 (.alt 8 (.alt 9 .fin .none) .none) .none) .none) .none) .none) .none) (.alt 1 (.alt 0 (.alt 3 (.alt 4 (.alt 5 (.alt 6 (.alt 8 (.alt 9 .fin .none) .none) .none) .none) .none) .none) .none) .none)) .none))) (.alt 7 (.alt 0 (.alt 1 (.alt 2 (.alt 3 (.alt 4 (.alt 5 (.alt 6 (.alt 8 (.alt 9 .fin .none) .none) .none) .none) .none) .none) .none) (.alt 2 (.alt 1 (.alt 3 (.alt 4 (.alt 5 (.alt 6 (.alt 8 (.alt 9 .fin .none) .none) .none) .none) .none) .none) .none) .none)) (.alt 1 (.alt 0 (.alt 2 (.alt 3 (.alt 4 (.alt 5 (.alt 6 (.alt 8 (.alt 9 .fin .none) .none) .none) .none) .none) .none) .none) (.alt 2 (.alt 0 (.alt 3 (.alt 4 (.alt 5 (.alt 6 (.alt 8 (.alt 9 .fin .none) .none) .none) .none) .none) .none) .none) .none)) (.alt 2 (.alt 0 (.alt 1 (.alt 3 (.alt 4 (.alt 5 (.alt 6 (.alt 8 (.alt 9 .fin .none) .none) .none) .none) .none) .none) .none) (.alt 1 (.alt 0 (.alt 3 (.alt 4 (.alt 5 (.alt 6 (.alt 8 (.alt 9 .fin .none) .none) .none) .none) .none) .none) .none) .none)) .none))) .none)))))]
theorem Is.many {d:Nat} {n:Node} {L:List KV} (h:Is d n L) (hd:d<=16) (H:List (List Blk)):aD X H 24 [pNode n] (.d (.int .i64 L.length)) []:=by
 have:=d_many d n hd h.ok H
 rw [h.ks,aAh] at this
 exact this
theorem Is.flat {d:Nat} {n:Node} {L:List KV} (h:Is d n L) (hd:d<=16) (hl:L.length<=1) (H:List (List Blk)):aD X H 25 [pNode n] (.d (.int .i64 1)) []:=by
 have:=d_depth d n hd h.ok H
 obtain ⟨e,he,_,b2,b3⟩:=pJ d n 0 h.ok (gY h.ch)
 rw [h.li] at b2
 have e0:e=0:=by
  rcases Nat.eq_zero_or_pos n.keys.length with hz | hz
  . exact (b3 hz).1
  . have b2:=b2 hz
    cases e with
    | zero=>rfl
    | succ e=>
      have:2 ^ 2<=2 ^ (e+1+1):=Nat.pow_le_pow_right (by decide) (by omega)
      omega
 subst e0
 unfold sO at this
 rw [if_pos h.ch,he] at this
 exact this
theorem aAc (H:List (List Blk)):aD X H 12 [] (.d (.bool true)) []:=by
 have I0:Is 1 (.mk [] [] []) []:=⟨ok0,chk0,rfl⟩
 have hv:∀ z:Int,∀ v ∈ [(⟨z,false,[]⟩:Ver)],v.val.length<=1000000:=fun z v hv=>by rw [aAy.1 hv];exact aBn _
 obtain ⟨da,a,ha,Ia,P1⟩:=pS I0 (by decide) (k:=[98]) (l:=[vA]) (by decide) (by decide) (by decide) (by decide) (hv 1)
 obtain ⟨db,b,hb,Ib,P2⟩:=pS Ia (by omega) (k:=[97]) (l:=[vB]) (by decide) (by decide) (by decide) (by decide) (hv 2)
 have lb:bR [97] [vB] (bR [98] [vA] []) = [([97],[vB]),([98],[vA])]:=by
  show (if cm [98] [97] < 0 then _ else if cm [98] [97]=0 then _ else _)=_
  rw [if_neg (by decide),if_neg (by decide)]
 rw [lb] at Ib
 have f97:List.find? (eqP [97]) [(([97]:List UInt8),[vB]),([98],[vA])]=some ([97],[vB]):=by kernel_rfl
 have f98:List.find? (eqP [98]) [(([97]:List UInt8),[vB]),([98],[vA])]=some ([98],[vA]):=by kernel_rfl
 have g1:List.find? (geP [97,97]) [(([97]:List UInt8),[vB]),([98],[vA])]=some ([98],[vA]):=by kernel_rfl
 have g2:List.find? (geP [99]) [(([97]:List UInt8),[vB]),([98],[vA])]=none:=by kernel_rfl
 obtain ⟨dd,c,hd,Ic,D1⟩:=yU Ib (by omega) (k:=[97]) (by decide) f97
 have lc:cD [97] [([97],[vB]),([98],[vA])] = [([98],[vA])]:=by kernel_rfl
 rw [lc] at Ic
 have K:=fun H=>xY db b (by omega) Ib.ok H
 rw [Ib.ks] at K
 have F:=fun H=>pE db b [98] (by omega) Ib.ok H
 rw [Ib.fi,f98] at F
 have F:∀ H,aD X H 15 [pNode b,.d (aL [98])] (.tuple [.d (encVs [vA]),.d (.bool true)]) []:=F
 have N1:=fun H=>xW db b [97,97] (by omega) Ib.ok H
 rw [tD Ib.ok,Ib.pr,g1] at N1
 have N1:∀ H,aD X H 17 [pNode b,.d (aL [97,97])] (.tuple [.d (aL [98]),.d (.bool true)]) []:=N1
 have N2:=fun H=>xW db b [99] (by omega) Ib.ok H
 rw [tD Ib.ok,Ib.pr,g2] at N2
 have N2:∀ H,aD X H 17 [pNode b,.d (aL [99])] (.tuple [.d (aL []),.d (.bool false)]) []:=N2
 have D2:=fun H=>is_delM Ic (by omega) (k:=[97]) (by decide) H
 have q3:fN db b (List.replicate 17 0) [vA]=false:=by unfold fN;rw [show decide (((List.replicate 17 (0:UInt8)).length:Int)<=16)=false from rfl];simp
 have q4:fN db b [99] []=false:=by unfold fN;simp
 have P3:=fun H=>vO Ib.ok (by omega) (by decide) q3 H
 have P4:=fun H=>vO Ib.ok (by omega) (by decide) q4 H
 have M:=fun H=>Ic.many (by omega) H
 have Dp:=fun H=>Ic.flat (by omega) (by decide) H
 have Ck:=fun H=>eU dd c (by omega) Ic.ok H
 rw [Ic.ch] at Ck
 refine callEq_of_bodyF aY false true (mo:=mo12) (by kernel_rfl) Try.func12 rfl ?_
 conv=>whnf
 refine ⟨_,_,(nE 1 _).md _ _,True.intro,?_⟩
 conv=>whnf
 refine ⟨_,_,(P1 _).md _ _,True.intro,?_⟩
 conv=>whnf
 refine cutV_of [.any,.any,.d (.int .i64 0),.ptr 0 0 0,.d (.int .i64 0),.any,.any,.any,.any,.any,.any,.any,.any,.any,.any,.any,.any,.any,.any,.any,.any,.any,.any,.any,.any,.any,.any,.any,.any,.any,.any,.any,.any,.any,.any,.any,.any,.any,.any,.any,.any,.any,.any,.any,.any,.any,.any,.any,.any,.any,.any,.any,.any,.any,.any,.any,.any,.any,.any,.any,.any,.any,.any,.any,.any,.any,.any,.any,.any,.any,.any,.any,.any,.any,.any,.any,.any,.any,.any,.any,.any,.any,.any,.any,.any,.any,.any,.any,.any,.any,.any,.any,.any,.any,.any,.any,.any,.any,.any,.any,.any,.any,.any,.any,.any,.any,.any,.any,.any,.any,.any,.any,.any,.any,.any,.any,.any,.any,.any,.any,.any,.any,.any,.any,.any,.any,.any,.any,.any,.any,.any,.any,.any,.any,.any,.any,.any,.any,.any,.any,.any,.any,.any,.any,.any,.any,.any,.any,.any,.any,.any,.any,.any,.any,.any,.any,.any,.any,.any,.any,.any,.any,.any,.any,.any,.any,.any,.any,.any,.any,.any,.any,.any] [bNode b] ?_ ?_
 . conv=>whnf
   repeat' (first
    | (refine ⟨_,_,(nE 2 _).md _ _,True.intro,?_⟩;conv=>whnf)
    | (refine ⟨_,_,(P2 _).md _ _,True.intro,?_⟩;conv=>whnf)
    | (refine And.intro ?_ ?_ <;> (conv=>whnf))
    | fail)
   all_goals first
    | (refine ⟨[1],And.intro rfl (And.intro ?_ ?_)⟩
       all_goals (repeat' (first | exact True.intro | exact rfl | refine And.intro ?_ ?_))
       done)
    | (refine ⟨[0],And.intro rfl (And.intro ?_ ?_)⟩
       all_goals (repeat' (first | exact True.intro | exact rfl | refine And.intro ?_ ?_))
       done)
 . conv=>whnf
   repeat' (first
    | (refine ⟨_,_,(K _).md _ _,True.intro,?_⟩;conv=>whnf)
    | (refine ⟨_,_,(F _).md _ _,True.intro,?_⟩;conv=>whnf)
    | (refine ⟨_,_,(N1 _).md _ _,True.intro,?_⟩;conv=>whnf)
    | (refine ⟨_,_,(N2 _).md _ _,True.intro,?_⟩;conv=>whnf)
    | (refine ⟨_,_,(D1 _).md _ _,True.intro,?_⟩;conv=>whnf)
    | (refine ⟨_,_,(D2 _).md _ _,True.intro,?_⟩;conv=>whnf)
    | fail)
   refine cutV_of [.any,.any,.d (.int .i64 0),.ptr 0 0 0,.d (.int .i64 0),.d (encKs [[97],[98]]),.d (encVs [vA]),.d (.bool true),.d (aL [98]),.d (.bool true),.any,.d (.bool false),.ptr 0 1 0,.d (.int .i64 0),.any,.d (.int .i64 61),.any,.d (.int .i64 1),.any,.any,.any,.any,.any,.any,.any,.any,.any,.any,.any,.any,.any,.any,.any,.any,.any,.any,.any,.any,.any,.any,.any,.any,.any,.any,.any,.any,.any,.any,.any,.any,.any,.any,.any,.any,.any,.any,.any,.any,.any,.any,.any,.any,.any,.any,.any,.any,.any,.any,.any,.any,.any,.any,.any,.any,.any,.any,.any,.any,.any,.any,.any,.any,.any,.any,.any,.any,.any,.any,.any,.any,.any,.any,.any,.any,.any,.any,.any,.any,.any,.any,.any,.any,.any,.any,.any,.any,.any,.any,.any,.any,.any,.any,.any,.any,.any,.any,.any,.any,.any,.any,.any,.any,.any,.any,.any,.any,.any,.any,.any,.any,.any,.any,.any,.any,.any,.any,.any,.any,.any,.any,.any,.any,.any,.any,.any,.any,.any,.any,.any,.any,.any,.any,.any,.any,.any,.any,.any,.any,.any,.any,.any,.any,.any,.any,.any,.any,.any,.any,.any,.any,.any,.any,.any] [bNode b,bNode c] ?_ ?_
   . conv=>whnf
     repeat' (first
      | (refine ⟨_,_,(nE 1 _).md _ _,True.intro,?_⟩;conv=>whnf)
      | (refine ⟨_,_,(P3 _).md _ _,True.intro,?_⟩;conv=>whnf)
      | (refine And.intro ?_ ?_ <;> (conv=>whnf))
      | exact Int.NonNeg.mk _
      | (refine ⟨[0,1],And.intro rfl (And.intro ?_ ?_)⟩
         all_goals (repeat' (first | exact True.intro | exact rfl | refine And.intro ?_ ?_))
         done)
      | fail)
   . conv=>whnf
     repeat' (first
      | (exfalso;revert h;decide)
      | exact Bool.noConfusion (show true=false from (beq_self_eq_true _).symm.trans h)
      | (refine And.intro (fun h=>?_) (fun h=>?_) <;> (conv=>whnf))
      | (refine ⟨_,_,(P4 _).md _ _,True.intro,?_⟩;conv=>whnf)
      | (refine ⟨_,_,(M _).md _ _,True.intro,?_⟩;conv=>whnf)
      | (refine ⟨_,_,(Dp _).md _ _,True.intro,?_⟩;conv=>whnf)
      | (refine ⟨_,_,(Ck _).md _ _,True.intro,?_⟩;conv=>whnf)
      | (refine ⟨Int.NonNeg.mk _,[aL [97]],rfl,rfl,?_⟩;conv=>whnf)
      | (refine ⟨Int.NonNeg.mk _,[aL [98]],rfl,rfl,?_⟩;conv=>whnf)
      | (refine ⟨Int.NonNeg.mk _,cVer vA,rfl,rfl,?_⟩;conv=>whnf)
      | (refine ⟨[],rfl,?_⟩
         (repeat' (first | exact True.intro | exact rfl | refine And.intro ?_ ?_))
         done)
      | (refine ⟨[97],rfl,?_⟩;conv=>whnf)
      | (refine ⟨[98],rfl,?_⟩;conv=>whnf)
      | fail)
theorem Is.lp {d:Nat} {n:Node} {L:List KV} (h:Is d n L):cJ d n=L:=by rw [uI h.ok,h.pr]
structure Left (L:List KV) (u i d:Nat) (n:Node) (C:List KV):Prop where
 is:Is d n C
 le:d<=5
 len:C.length+i=L.length
 has:∀ j p,L[j]? = some p->(∀ t,t < i->(t+u) % L.length≠j)->p ∈ C
theorem mod_ne {a b u n:Nat} (hab:a < b) (hb:b < n):(a+u) % n≠(b+u) % n:=fun h=>by
 have h1:(b+u) % n=(a+u+(b - a)) % n:=by congr 1;omega
 rw [h1,Nat.add_mod (a+u) (b - a) n,Nat.mod_eq_of_lt (by omega:b - a < n)] at h
 have hr:=Nat.mod_lt (a+u) (by omega:n > 0)
 generalize (a+u) % n=r at *
 rcases aBl (r+(b - a)) n with hl | hl
 . rw [Nat.mod_eq_of_lt hl] at h;omega
 . rw [Nat.mod_eq_sub_mod hl,Nat.mod_eq_of_lt (by omega)] at h;omega
theorem qM {p:KV}:∀ {L:List KV},bF L->p ∈ L->(cD p.1 L).length+1=L.length
 | [],_,h=>by cases h
 | q::L,hs,h=>by
   obtain ⟨s1,s2⟩:=aA3.1 hs
   rw [lP]
   rcases List.mem_cons.1 h with rfl | h
   . rw [if_pos (cG _),iD (fun x hx=>by
      have h1:cm p.1 x.1 < 0:=s1 x hx
      have:=dB p.1 x.1
      omega)]
     rfl
   . have h1:cm q.1 p.1 < 0:=s1 p h
     rw [if_neg (by omega),aAn,aAn,qM s2 h]
theorem Left.step {L:List KV} {u i d:Nat} {n:Node} {C:List KV} {p:KV} (hL:bF L) (h:Left L u i d n C) (hi:i < L.length) (hp:L[(i+u) % L.length]? = some p) :
 p ∈ C/\C.find? (eqP p.1)=some p/\(∀ d' R,d'<=d->Is d' R (cD p.1 C)->Left L u (i+1) d' R (cD p.1 C)):=by
 have hm:=h.has _ p hp fun t ht=>mod_ne ht hi
 refine ⟨hm,mQ h.is.so hm,fun d' R hd hR=>⟨hR,aBp hd h.le,by have:=qM h.is.so hm;have:=h.len;omega,fun j q hq ht=>?_⟩⟩
 have hq2:=h.has j q hq fun t h1=>ht t (by omega)
 refine List.mem_filter.2 ⟨hq2,?_⟩
 have hne:cm q.1 p.1≠0:=fun h0=>by
  have e:=pI hL (aAg hq) (aAg hp) ((fM _ _).1 h0)
  subst e
  have hj:=(aAe.1 hq).1
  have hg:=List.pairwise_iff_getElem.1 hL
  have hj2:=(aAe.1 hp).1
  have e1:=(aAe.1 hq).2
  have e2:=(aAe.1 hp).2
  rcases Nat.lt_trichotomy ((i+u) % L.length) j with h1 | h1 | h1
  . have:=hg _ _ hj2 hj h1
    rw [e1,e2,cG] at this;omega
  . exact ht i (aBm _) h1
  . have:=hg _ _ hj hj2 h1
    rw [e1,e2,cG] at this;omega
 simp [hne]
theorem lQ:∀ {A B:List KV},bF A->bF B->(∀ p,p ∈ A↔p ∈ B)->A=B
 | [],[],_,_,_=>rfl
 | [],b::B,_,_,h=>by have:=(h b).2 (aAu ..);cases this
 | a::A,[],_,_,h=>by have:=(h a).1 (aAu ..);cases this
 | a::A,b::B,ha,hb,h=>by
   obtain ⟨a1,a2⟩:=aA3.1 ha
   obtain ⟨b1,b2⟩:=aA3.1 hb
   have e:a=b:=by
    rcases List.mem_cons.1 ((h a).1 (aAu ..)) with e | h1
    . exact e
    rcases List.mem_cons.1 ((h b).2 (aAu ..)) with e | h2
    . exact e.symm
    have c1:cm b.1 a.1 < 0:=b1 a h1
    have c2:cm a.1 b.1 < 0:=a1 b h2
    have:=dB a.1 b.1
    omega
   subst e
   refine congrArg (a :: ·) (lQ a2 b2 fun p=>⟨fun hp=>?_,fun hp=>?_⟩)
   . rcases List.mem_cons.1 ((h p).1 (aAv _ hp)) with e | h1
     . subst e
       have c1:cm p.1 p.1 < 0:=a1 p hp
       rw [cG] at c1;omega
     . exact h1
   . rcases List.mem_cons.1 ((h p).2 (aAv _ hp)) with e | h1
     . subst e
       have c1:cm p.1 p.1 < 0:=b1 p hp
       rw [cG] at c1;omega
     . exact h1
theorem qN {k:List UInt8} {l:List Ver}:∀ {L:List KV},(∀ p ∈ L,p.1=k->p=(k,l)) -> ∀ p,p ∈ bR k l L↔p=(k,l)\/p ∈ L
 | [],_,p=>by show p ∈ [(k,l)]↔_;simp
 | q::L,h,p=>by
   have ih:=qN (L:=L) fun p hp=>h p (aAv _ hp)
   show p ∈ (if cm q.1 k < 0 then q::bR k l L else if cm q.1 k=0 then (k,l)::L else (k,l)::q::L)↔_
   split
   . rw [List.mem_cons,ih p,List.mem_cons]
     exact ⟨fun h=>by rcases h with h | h | h;exact .inr (.inl h);exact .inl h;exact .inr (.inr h),fun h=>by rcases h with h | h | h;exact .inr (.inl h);exact .inl h;exact .inr (.inr h)⟩
   . split
     . rename_i h0
       have e:=h q (aAu ..) ((fM _ _).1 h0)
       rw [List.mem_cons,List.mem_cons,e]
       exact ⟨fun h=>by rcases h with h | h;exact .inl h;exact .inr (.inr h),fun h=>by rcases h with h | h | h;exact .inl h;exact .inl h;exact .inr h⟩
     . rw [List.mem_cons]
theorem vP {k:List UInt8} {l:List Ver}:∀ L:List KV,(bR k l L).length<=L.length+1
 | []=>aBo _
 | q::L=>by
   show (if cm q.1 k < 0 then q::bR k l L else if cm q.1 k=0 then (k,l)::L else (k,l)::q::L).length<=_
   have:=vP (k:=k) (l:=l) L
   split
   . simp only [aAn];omega
   . split
     . simp only [aAn];omega
     . exact aBo _
theorem Is.tight {d:Nat} {n:Node} {L:List KV} (h:Is d n L) (hl:L.length<=100):Is 6 n L:=by
 obtain ⟨e,he,hd,hsh⟩:=eP d n 0 h.ok (gY h.ch)
 have hA:=gO (e+1) n hsh d he
 obtain ⟨e2,he2,_,b2,b3⟩:=pJ d n 0 h.ok (gY h.ch)
 have ee:e2=e:=by have:=hd.symm.trans he2;omega
 subst ee
 have h6:e2+1<=6:=by
  rcases Nat.eq_zero_or_pos n.keys.length with hz | hz
  . have:=(b3 hz).1;omega
  . have b2:=b2 hz
    rw [h.li] at b2
    rcases aBl 6 (e2+1) with h7 | h7
    . have:2 ^ 7<=2 ^ (e2+1):=Nat.pow_le_pow_right (by decide) (by omega)
      omega
    . exact h7
 have hl6:aB 6 n=L:=by rw [gO (e2+1) n hsh 6 h6,<- hA,h.li]
 refine ⟨?_,?_,hl6⟩
 . have h1:nOk (e2+1) n:=mX _ _ hsh (by rw [<- hA,h.li];exact h.kv)
   have mono:∀ (a:Nat) (m:Node),nOk a m->nOk (a+1) m:=by
    intro a
    induction a with
    | zero=>exact fun m h=>h.elim
    | succ a ih=>exact fun m h=>⟨h.1,h.2.1,h.2.2.1,h.2.2.2.1,h.2.2.2.2.1,fun x hx=>ih x (h.2.2.2.2.2 x hx)⟩
   have go:∀ k,nOk (e2+1+k) n:=fun k=>by
    induction k with
    | zero=>exact h1
    | succ k ih=>exact mono _ _ ih
   have:=go (6 - (e2+1))
   rwa [show e2+1+(6 - (e2+1))=6 by omega] at this
 . have:=h.ch
   unfold aX at this ⊢
   rw [hl6]
   rw [h.li] at this
   exact this
def stV (k:UInt8):List Ver:=[⟨((1+k.toNat:Nat):Int),false,[]⟩]
def stP (k:UInt8):KV:=([k],stV k)
theorem yV (k:UInt8):vsOk (stV k)=true:=by
 have:=k.toNat_lt
 show (if !vMay ⟨((1+k.toNat:Nat):Int),false,[]⟩||decide (((1+k.toNat:Nat):Int)<=0) then false else true)=true
 have h:vMay ⟨((1+k.toNat:Nat):Int),false,[]⟩=true:=by
  unfold vMay
  dsimp only
  rw [decide_eq_true (by omega:((1+k.toNat:Nat):Int)>=1),decide_eq_true (by omega:((1+k.toNat:Nat):Int)<=2147483647)]
  rfl
 rw [h,decide_eq_false (by omega:¬ ((1+k.toNat:Nat):Int)<=0)]
 rfl
structure Of (l:List UInt8) (P:Nat->Prop) (n:Node) (L:List KV):Prop where
 is:Is 6 n L
 mem:∀ p,p ∈ L ↔ ∃ t k,P t/\l[t]? = some k/\p=stP k
theorem tU {l:List UInt8} {P:Nat->Prop} {n:Node} {L:List KV} (h:Of l P n L) {k:UInt8}:∀ p ∈ L,p.1 = [k]->p=([k],stV k):=fun p hp e=>by
 obtain ⟨t,k',_,_,rfl⟩:=(h.mem p).1 hp
 cases e
 rfl
theorem Of.put {l:List UInt8} {P:Nat->Prop} {n:Node} {L:List KV} (h:Of l P n L) (hl:L.length < 100) {t:Nat} {k:UInt8} (hk:l[t]? = some k) :
 ∃ R,Of l (fun j=>P j\/j=t) R (bR [k] (stV k) L)/\(bR [k] (stV k) L).length<=L.length+1 /\ ∀ H,aD X H 28 [pNode n,.d (aL [k]),.d (encVs (stV k))] (.tuple [pNode R,.d (.int .i64 0)]) []:=by
 obtain ⟨d',R,hd,hR,hP⟩:=pS h.is (by decide) (k:=[k]) (l:=stV k) (by show (1:Nat)<=16;decide) (by show (1:Nat)≠0;decide) (by show (1:Nat) < 100000;decide) (yV k) (fun v hv=>by rw [aAy.1 hv];exact aBn _)
 have hln:=vP (k:=[k]) (l:=stV k) L
 refine ⟨R,⟨hR.tight (by omega),fun p=>?_⟩,hln,hP⟩
 rw [qN (tU h) p,h.mem p]
 constructor
 . rintro (rfl | ⟨t',k',h1,h2,h3⟩)
   . exact ⟨t,k,.inr rfl,hk,rfl⟩
   . exact ⟨t',k',.inl h1,h2,h3⟩
 . rintro ⟨t',k',h1 | rfl,h2,h3⟩
   . exact .inr ⟨t',k',h1,h2,h3⟩
   . rw [hk] at h2;cases h2;exact .inl h3
theorem aAd {n u j:Nat} (hj:j < n):∃ t,t < n/\(t+u) % n=j:=by
 refine ⟨(j+(n - u % n)) % n,Nat.mod_lt _ (by omega),?_⟩
 have hu:=Nat.mod_lt u (by omega:n > 0)
 rw [Nat.add_mod,Nat.mod_mod]
 have h:(j+(n - u % n)) % n=if j+(n - u % n) < n then j+(n - u % n) else j+(n - u % n) - n:=by
  split
  . rename_i h;exact Nat.mod_eq_of_lt h
  . rename_i h;rw [Nat.mod_eq_sub_mod (by omega),Nat.mod_eq_of_lt (by omega)]
 rw [h]
 generalize u % n=r at *
 split
 . rw [show j+(n - r)+r=j+n by omega,Nat.add_mod_right,Nat.mod_eq_of_lt hj]
 . rw [show j+(n - r) - n+r=j by omega,Nat.mod_eq_of_lt hj]
theorem Of.same {l:List UInt8} {P Q:Nat->Prop} {a b:Node} {A B:List KV} (ha:Of l P a A) (hb:Of l Q b B) (h:∀ t,P t↔Q t):A=B:=
 lQ ha.is.so hb.is.so fun p=>by
  rw [ha.mem,hb.mem]
  exact ⟨fun ⟨t,k,h1,h2⟩=>⟨t,k,(h t).1 h1,h2⟩,fun ⟨t,k,h1,h2⟩=>⟨t,k,(h t).2 h1,h2⟩⟩
theorem Of.again {l:List UInt8} {P:Nat->Prop} {n:Node} {L:List KV} (h:Of l P n L) (hl:L.length < 100) {t:Nat} {k:UInt8} (ht:P t) (hk:l[t]? = some k) :
 ∃ D C,(cD [k] L).length+1=L.length/\Is 6 D (cD [k] L)/\Is 6 C L/\(∀ H,aD X H 29 [pNode n,.d (aL [k])] (.tuple [pNode D,.d (.int .i64 0)]) []) /\ ∀ H,aD X H 28 [pNode D,.d (aL [k]),.d (encVs (stV k))] (.tuple [pNode C,.d (.int .i64 0)]) []:=by
 have hm:stP k ∈ L:=(h.mem _).2 ⟨t,k,ht,hk,rfl⟩
 have hf:L.find? (eqP [k])=some (stP k):=mQ h.is.so hm
 obtain ⟨d',D,_,hD,hDel⟩:=yU h.is (by decide) (k:=[k]) (by show (1:Nat)<=1000000;decide) hf
 have hdl:(cD [k] L).length+1=L.length:=qM h.is.so hm
 have hD:=hD.tight (by omega)
 obtain ⟨d2,C,_,hC,hPut⟩:=pS hD (by decide) (k:=[k]) (l:=stV k) (by show (1:Nat)<=16;decide) (by show (1:Nat)≠0;decide) (by show (1:Nat) < 100000;decide) (yV k) (fun v hv=>by rw [aAy.1 hv];exact aBn _)
 have e:bR [k] (stV k) (cD [k] L)=L:=by
  refine lQ hC.so h.is.so fun p=>?_
  rw [qN (L:=cD [k] L) (fun p hp he=>tU h p (List.mem_filter.1 hp).1 he) p]
  constructor
  . rintro (rfl | hp)
    . exact hm
    . exact (List.mem_filter.1 hp).1
  . intro hp
    by_cases hz:cm p.1 [k]=0
    . exact .inl (tU h p hp ((fM _ _).1 hz))
    . exact .inr (List.mem_filter.2 ⟨hp,by simp [hz]⟩)
 rw [e] at hC
 exact ⟨D,C,hdl,hD,hC.tight (by omega),hDel,hPut⟩
structure Ag (l:List UInt8) (n u i:Nat) (a b:Node) (A B:List KV):Prop where
 a:Of l (fun j=>j < i) a A
 b:Of l (fun j=>∃ t,t < i/\(t+u) % n=j) b B
 la:A.length<=i
 lb:B.length<=i
theorem Ag.zero (l:List UInt8) (n u:Nat):Ag l n u 0 (.mk [] [] []) (.mk [] [] []) [] []:=by
 have I0:Is 6 (.mk [] [] []) []:=Is.tight (d:=1) ⟨ok0,chk0,rfl⟩ (by decide)
 exact ⟨⟨I0,fun p=>⟨fun h=>(by cases h),fun ⟨t,_,h,_⟩=>absurd h (Nat.not_lt_zero t)⟩⟩,⟨I0,fun p=>⟨fun h=>(by cases h),fun ⟨_,_,⟨t,h,_⟩,_⟩=>absurd h (Nat.not_lt_zero t)⟩⟩,aBo _,aBo _⟩
theorem Ag.step {l:List UInt8} {n u i:Nat} {a b:Node} {A B:List KV} (h:Ag l n u i a b A B) (hi:i < 50) {x y:UInt8} (hx:l[i]? = some x) (hy:l[(i+u) % n]? = some y) :
 ∃ a' b' A' B',Ag l n u (i+1) a' b' A' B'/\(∀ H,aD X H 28 [pNode a,.d (aL [x]),.d (encVs (stV x))] (.tuple [pNode a',.d (.int .i64 0)]) []) /\ ∀ H,aD X H 28 [pNode b,.d (aL [y]),.d (encVs (stV y))] (.tuple [pNode b',.d (.int .i64 0)]) []:=by
 have ha:=h.la
 have hb:=h.lb
 obtain ⟨a',a1,a2,a3⟩:=h.a.put (by omega) hx
 obtain ⟨b',b1,b2,b3⟩:=h.b.put (by omega) hy
 have e1:(fun j=>j < i\/j=i)=fun j=>j < i+1:=by funext j;exact propext ⟨fun h=>by omega,fun h=>by omega⟩
 have e2:(fun j=>(∃ t,t < i/\(t+u) % n=j)\/j=(i+u) % n)=fun j=>∃ t,t < i+1/\(t+u) % n=j:=by
  funext j
  refine propext ⟨fun h=>?_,fun ⟨t,h1,h2⟩=>?_⟩
  . rcases h with ⟨t,h1,h2⟩ | h
    . exact ⟨t,by omega,h2⟩
    . exact ⟨i,aBm _,h.symm⟩
  . rcases aBl t i with h3 | h3
    . exact .inl ⟨t,h3,h2⟩
    . obtain rfl:t=i:=by omega
      exact .inr h2.symm
 rw [e1] at a1
 rw [e2] at b1
 exact ⟨a',b',_,_,⟨a1,b1,by omega,by omega⟩,a3,b3⟩
theorem Ag.done {l:List UInt8} {n u:Nat} {a b:Node} {A B:List KV} (h:Ag l n u n a b A B):A=B:=
 h.a.same h.b fun t=>⟨fun ht=>aAd ht,fun ⟨s,h1,h2⟩=>by rw [<- h2];exact Nat.mod_lt _ (by omega)⟩
theorem t_again (l:List UInt8) (u:Int) (hu:0<=u/\u < 256) (H:List (List Blk)):aD X H 7 [.d (aL l),.d (.int .u8 u)] (.d (.bool true)) []:=by
 obtain ⟨u,rfl⟩:∃ v:Nat,u=v:=⟨u.toNat,by omega⟩
 have wu:IntKind.i64.wrap ((u:Nat):Int)=((u:Nat):Int):=aJ (by omega) (by omega)
 have hkl:(l.map fun x:UInt8=>[DV.int .u8 x.toNat]).length=l.length:=by rw [aAh]
 have hgo:∀ (a b:Node) (A B:List KV),Ag l (min l.length 40) u (min l.length 40) a b A B->True:=fun _ _ _ _ _=>trivial
 have wk:∀ x:UInt8,IntKind.i64.wrap ((x.toNat:Nat):Int)=((x.toNat:Nat):Int):=fun x=>by have:=x.toNat_lt;exact aJ (by omega) (by omega)
 have wk1:∀ x:UInt8,IntKind.i64.wrap (1+((x.toNat:Nat):Int))=((1+x.toNat:Nat):Int):=fun x=>by have:=x.toNat_lt;rw [aJ (by omega) (by omega)];omega
 refine callEq_of_body aY rfl Try.func7 rfl ?_
 conv=>whnf
 refine ⟨_,_,aAc _,True.intro,?_⟩
 conv=>whnf
 refine bI (fun s:Nat × ((Node × Node) × (List KV × List KV))=>⟨[.d (aL l),.d (.int .u8 u),.any,.any,.any,.d (.bool true),.ptr 0 0 0,.ptr 0 1 0,.d (.int .i64 s.1),.any,.any,.any,.any,.any,.any,.any,.any,.any,.any,.any,.any,.any,.any,.any,.any,.any,.any,.any,.any,.any,.any,.any,.any,.any,.any,.any,.any,.any,.any,.any,.any,.any,.any,.any,.any,.any,.any,.any,.any,.any,.any,.any,.any,.any,.any,.any,.any,.any,.any,.any,.any,.any,.any,.any,.any,.any,.any,.any,.any,.any,.any,.any,.any,.any,.any,.any,.any,.any,.any,.any,.any,.any,.any,.any,.any,.any,.any,.any,.any,.any,.any,.any,.any,.any,.any,.any,.any,.any,.any,.any,.any,.any,.any,.any,.any,.any,.any,.any,.any,.any,.any,.any,.any,.any,.any,.any,.any,.any,.any,.any,.any,.any,.any,.any,.any,.any,.any,.any,.any,.any,.any,.any,.any,.any,.any,.any,.any,.any,.any,.any,.any,.any,.any,.any,.any],[bNode s.2.1.1,bNode s.2.1.2]⟩)
  (fun s=>s.1<=min l.length 40/\Ag l (min l.length 40) u s.1 s.2.1.1 s.2.1.2 s.2.2.1 s.2.2.2) (fun s=>min l.length 40 - s.1) (0,((.mk [] [] [],.mk [] [] []),([],[]))) [0,1] ⟨aBn _,Ag.zero _ _ _⟩ ?_ ?_
 . refine And.intro rfl (And.intro ?_ ?_)
   all_goals (repeat' (first | exact True.intro | exact rfl | refine And.intro ?_ ?_))
 . rintro ⟨i,⟨a,b⟩,⟨A,B⟩⟩ ⟨hle,hA⟩
   dsimp only at hle hA ⊢
   have hla:=hA.la
   have hlb:=hA.lb
   conv=>whnf
   by_cases hi:i < min l.length 40
   . have hi1:i < l.length:=by omega
     have f1:decide (((i:Nat):Int) < (((l.map fun x:UInt8=>[DV.int .u8 x.toNat]).length:Nat):Int))=true:=decide_eq_true (by rw [hkl];omega)
     have f2:decide (((i:Nat):Int) < 40)=true:=decide_eq_true (by omega)
     have hmod:=Nat.mod_lt (i+u) (by omega:min l.length 40 > 0)
     obtain ⟨x,hx⟩:∃ x,l[i]? = some x:=⟨_,aAf hi1⟩
     obtain ⟨y,hy⟩:∃ y,l[(i+u) % min l.length 40]? = some y:=⟨_,aAf (by omega)⟩
     obtain ⟨a',b',A',B',hS,hPa,hPb⟩:=hA.step (by omega) hx hy
     have o1:=fun H=>nE ((1+x.toNat:Nat):Int) H
     have o2:=fun H=>nE ((1+y.toNat:Nat):Int) H
     have w0:IntKind.i64.wrap (((i:Nat):Int)+((u:Nat):Int))=((i+u:Nat):Int):=by rw [aJ (by omega) (by omega)];omega
     have w1:IntKind.i64.wrap (((i:Nat):Int)+1)=((i+1:Nat):Int):=by rw [aJ (by omega) (by omega)];omega
     have wm:min (((l.map fun x:UInt8=>[DV.int .u8 x.toNat]).length:Nat):Int) 40=((min l.length 40:Nat):Int):=by rw [hkl];omega
     have w3:(((i+u:Nat):Int)).tmod ((min l.length 40:Nat):Int)=(((i+u) % min l.length 40:Nat):Int):=by rw [Int.ofNat_tmod]
     have hne:((min l.length 40:Nat):Int)≠0:=by omega
     have gx:(l.map fun x:UInt8=>[DV.int .u8 x.toNat])[((i:Nat):Int).toNat]? = some [DV.int .u8 x.toNat]:=by rw [aBi,aAi,hx];rfl
     have gy:(l.map fun x:UInt8=>[DV.int .u8 x.toNat])[(((i+u) % min l.length 40:Nat):Int).toNat]? = some [DV.int .u8 y.toNat]:=by rw [aBi,aAi,hy];rfl
     have hge:(0:Int)<=((i:Nat):Int):=by omega
     have hge2:(0:Int)<=(((i+u) % min l.length 40:Nat):Int):=by omega
     generalize hn:min l.length 40=n at *
     repeat' (first
      | exact absurd (f1.symm.trans h_) (by decide)
      | exact absurd (f2.symm.trans h_) (by decide)
      | (exfalso;revert h_;decide)
      | (intro z hz
         conv=>whnf
         first | rw [wu] at hz | rw [w0] at hz | rw [w1] at hz | rw [w3] at hz | rw [wm] at hz | rw [wk] at hz | rw [wk1] at hz
         subst hz)
      | (refine ⟨hne,?_⟩;conv=>whnf)
      | (refine ⟨hge,_,gx,rfl,?_⟩;conv=>whnf)
      | (refine ⟨hge2,_,gy,rfl,?_⟩;conv=>whnf)
      | (refine ⟨_,_,o1 _,True.intro,?_⟩;conv=>whnf)
      | (refine ⟨_,_,o2 _,True.intro,?_⟩;conv=>whnf)
      | (refine ⟨_,_,hPa _,True.intro,?_⟩;conv=>whnf)
      | (refine ⟨_,_,hPb _,True.intro,?_⟩;conv=>whnf)
      | (refine And.intro (fun h_=>?_) (fun h_=>?_) <;> (conv=>whnf))
      | (refine ⟨(i+1,((a',b'),(A',B'))),[0,1],⟨(by show i+1<=n;omega),hS⟩,(by show n - (i+1) < n - i;omega),And.intro rfl (And.intro ?_ ?_)⟩
         all_goals (repeat' (first | exact True.intro | exact rfl | refine And.intro ?_ ?_))
         done)
      | fail)
   . have hin:i=min l.length 40:=by omega
     subst hin
     have e:=hA.done
     subst e
     have hAl:A.length < 4294967296:=by omega
     have hLa:=fun H=>lK 6 a (by decide) hA.a.is.ok H
     have hLb:=fun H=>lK 6 b (by decide) hA.b.is.ok H
     rw [hA.a.is.lp] at hLa
     rw [hA.b.is.lp] at hLb
     have hSa:∀ H,aD X H _ _ _ []:=fun H=>uH A ▸ d_same A A hAl (fun p hp=>(hA.a.is.kv p hp).2.1) H
     rcases Nat.eq_zero_or_pos l.length with hz | hz
     . obtain rfl:l = []:=List.eq_nil_of_length_eq_zero hz
       repeat' (first
        | (exfalso;revert h_;decide)
        | (refine ⟨_,_,hLa _,True.intro,?_⟩;conv=>whnf)
        | (refine ⟨_,_,hLb _,True.intro,?_⟩;conv=>whnf)
        | (refine ⟨_,_,hSa _,True.intro,?_⟩;conv=>whnf)
        | (refine And.intro (fun h_=>?_) (fun h_=>?_) <;> (conv=>whnf))
        | (refine ⟨[0],rfl,?_,True.intro⟩
           (repeat' (first | exact True.intro | exact rfl | refine And.intro ?_ ?_))
           done)
        | (refine ⟨[],rfl,?_,True.intro⟩
           (repeat' (first | exact True.intro | exact rfl | refine And.intro ?_ ?_))
           done)
        | fail)
     obtain ⟨x,hx⟩:∃ x,l[0]? = some x:=⟨_,aAf hz⟩
     have hpos:0 < min l.length 40:=by omega
     obtain ⟨D,C,hdl,hD,hC,hDel,hPut⟩:=hA.a.again (by omega) hpos hx
     have o1:=fun H=>nE ((1+x.toNat:Nat):Int) H
     have hLc:=fun H=>lK 6 C (by decide) hC.ok H
     rw [hC.lp] at hLc
     have hMD:=fun H=>hD.many (by decide) H
     have hMa:=fun H=>hA.a.is.many (by decide) H
     generalize (cD [x] A).length=dl at hdl hMD
     have w2:IntKind.i64.wrap ((A.length:Int) - 1)=((dl:Nat):Int):=by rw [show (A.length:Int) - 1=((dl:Nat):Int) by omega];exact aJ (by omega) (by omega)
     have gx:(l.map fun x:UInt8=>[DV.int .u8 x.toNat])[(0:Int).toNat]? = some [DV.int .u8 x.toNat]:=by show (l.map fun x:UInt8=>[DV.int .u8 x.toNat])[0]? = _;rw [aAi,hx];rfl
     have hge:(0:Int)<=0:=Int.le_refl _
     have f3:((((l.map fun x:UInt8=>[DV.int .u8 x.toNat]).length:Nat):Int)==0)=false:=by rw [hkl];exact beq_eq_false_iff_ne.2 (by omega)
     have hwk:=wk x
     have hwk1:=wk1 x
     generalize hn:min l.length 40=n at *
     refine And.intro (fun h1=>?_) (fun h1=>?_) <;> (conv=>whnf)
     . refine And.intro (fun h2=>?_) (fun h2=>?_) <;> (conv=>whnf)
       . exfalso
         have q1:=of_decide_eq_true h1
         have q2:=of_decide_eq_true h2
         rw [hkl] at q1
         omega
       . repeat' (first
          | exact absurd (f3.symm.trans h_) (by decide)
          | exact absurd ((beq_self_eq_true _).symm.trans h_) (by decide)
          | (exfalso;revert h_;decide)
          | (intro z hz
             conv=>whnf
             first | rw [w2] at hz | rw [hwk] at hz | rw [hwk1] at hz
             subst hz)
          | (refine ⟨hge,_,gx,rfl,?_⟩;conv=>whnf)
          | (refine ⟨_,_,hLa _,True.intro,?_⟩;conv=>whnf)
          | (refine ⟨_,_,hLb _,True.intro,?_⟩;conv=>whnf)
          | (refine ⟨_,_,hLc _,True.intro,?_⟩;conv=>whnf)
          | (refine ⟨_,_,hSa _,True.intro,?_⟩;conv=>whnf)
          | (refine ⟨_,_,hMD _,True.intro,?_⟩;conv=>whnf)
          | (refine ⟨_,_,hMa _,True.intro,?_⟩;conv=>whnf)
          | (refine ⟨_,_,o1 _,True.intro,?_⟩;conv=>whnf)
          | (refine ⟨_,_,hDel _,True.intro,?_⟩;conv=>whnf)
          | (refine ⟨_,_,hPut _,True.intro,?_⟩;conv=>whnf)
          | (refine And.intro (fun h_=>?_) (fun h_=>?_) <;> (conv=>whnf))
          | exact ⟨[],rfl,(show DV.bool _=DV.bool true from congrArg DV.bool (beq_self_eq_true _)),True.intro⟩
          | (refine ⟨[0],rfl,?_,True.intro⟩
             (repeat' (first | exact True.intro | exact rfl | refine And.intro ?_ ?_))
             done)
          | (refine ⟨[],rfl,?_,True.intro⟩
             (repeat' (first | exact True.intro | exact rfl | refine And.intro ?_ ?_))
             done)
          | fail)
     . repeat' (first
        | exact absurd (f3.symm.trans h_) (by decide)
        | exact absurd ((beq_self_eq_true _).symm.trans h_) (by decide)
        | (exfalso;revert h_;decide)
        | (intro z hz
           conv=>whnf
           first | rw [w2] at hz | rw [hwk] at hz | rw [hwk1] at hz
           subst hz)
        | (refine ⟨hge,_,gx,rfl,?_⟩;conv=>whnf)
        | (refine ⟨_,_,hLa _,True.intro,?_⟩;conv=>whnf)
        | (refine ⟨_,_,hLb _,True.intro,?_⟩;conv=>whnf)
        | (refine ⟨_,_,hLc _,True.intro,?_⟩;conv=>whnf)
        | (refine ⟨_,_,hSa _,True.intro,?_⟩;conv=>whnf)
        | (refine ⟨_,_,hMD _,True.intro,?_⟩;conv=>whnf)
        | (refine ⟨_,_,hMa _,True.intro,?_⟩;conv=>whnf)
        | (refine ⟨_,_,o1 _,True.intro,?_⟩;conv=>whnf)
        | (refine ⟨_,_,hDel _,True.intro,?_⟩;conv=>whnf)
        | (refine ⟨_,_,hPut _,True.intro,?_⟩;conv=>whnf)
        | (refine And.intro (fun h_=>?_) (fun h_=>?_) <;> (conv=>whnf))
        | exact ⟨[],rfl,(show DV.bool _=DV.bool true from congrArg DV.bool (beq_self_eq_true _)),True.intro⟩
        | (refine ⟨[0],rfl,?_,True.intro⟩
           (repeat' (first | exact True.intro | exact rfl | refine And.intro ?_ ?_))
           done)
        | (refine ⟨[],rfl,?_,True.intro⟩
           (repeat' (first | exact True.intro | exact rfl | refine And.intro ?_ ?_))
           done)
        | fail)
end Go.Proofs.Ve
namespace Go.Proofs.Ytingjgfoihjelaa.treeAgain
open Go Go.Proofs.Ve Go.ChangeShapes Go.WideShapes Go.ChangeAt Go.RowKit
theorem own:ownKnob Try.prog.godebug=none:=by kernel_rfl
theorem laidOut:laidOutB Try.prog=true:=by kernel_rfl
theorem lifted (os:Os) (started:os.Started) (H:Type) (enc:TypeId × Value->H) :
 ReturnsInHanded {} Try.checked os 7 .any (Rows.treeAgainSpec.pre6 enc Try.prog Try.f7 Rows.treeAgainRow.domain false) (Rows.treeAgainSpec.post enc Try.prog Try.f7 false true false false):=by
 refine returnsInHanded_of_change_sized (C:=Try.checked) own started (by kernel_rfl) Try.func7
  (ChangeSpec.witness6 (enc:=enc) (C:=Try.checked) false ⟨#[],#[.slice none 0 0,.int .u8 0],[]⟩ 8 (by kernel_rfl) (by kernel_rfl) (by kernel_rfl) (by kernel_rfl)) ?_
 intro W base args ds gs before hval0 hW hcnd hsz0 _
 have hval:∀ (j:Nat) t v,Try.f7.params[j]? = some t->args[j]? = some v->Value.okWide Try.prog W .any base t v:=hval0
 have hW':=hW
 obtain ⟨p,q,hA0,hV,rfl,hfz,hnd⟩:=hW
 have hA:DataW.TrodAll enc Try.prog W 0 (fun _=>true) true Try.f7.params.toList args.toList ds p:=hA0
 rw [Try.params7] at hA hval
 obtain ⟨v0,vs0,d0,ds0,p0,q0,hargs,rfl,rfl,h0,r0⟩:=trodAll_cons hA
 obtain ⟨v1,vs1,d1,ds1,p1,q1,rfl,rfl,rfl,h1,r1⟩:=trodAll_cons r0
 obtain ⟨rfl,rfl,rfl⟩:=trodAll_nil r1
 obtain rfl:args = #[v0,v1]:=by cases args;simp_all
 obtain ⟨rfl,rfl⟩:=trodVars_none hV
 obtain ⟨e0,fit0,rp0⟩:=arg_reads 12 (r:=[.sl [.int .u8]]) (by kernel_rfl) (hval 0 _ v0 rfl rfl) h0
 obtain ⟨x0,hx0⟩:=fit_pbytes fit0
 have rp0:RP (m0 W) _ v0:=hx0 ▸ rp0
 have lt0:∀ x ∈ p0,x.block < W.heap.size:=by obtain ⟨m,hm⟩:=h0;exact DataW.trod_lt m _ _ _ hm
 obtain ⟨e1,fit1,rp1⟩:=arg_reads 12 (r:=[.int .u8]) (by kernel_rfl) (hval 1 _ v1 rfl rfl) h1
 obtain ⟨x1,hx1,hw1⟩:=fit_int fit1
 have rp1:RP (m0 W) _ v1:=hx1 ▸ rp1
 have lt1:∀ x ∈ p1,x.block < W.heap.size:=by obtain ⟨m,hm⟩:=h1;exact DataW.trod_lt m _ _ _ hm
 have call:Calls Try.prog 7 #[v0,v1] W fun e W'=>e = .returned (.bool true)/\Below W.heap.size W W':=by
  refine aD.calls (t_again x0 x1 (wf_u8 hw1) []) rfl ?_
  intro j p v hp hv
  match j with
  | 0=>cases hp;cases hv;exact rp0
  | 1=>cases hp;cases hv;exact rp1
  | j+2=>cases hp
 refine call.mono fun e W' ⟨he,bel⟩=>?_
 subst he
 exact ⟨_,rfl,_,_,_,[],_,[],hW',trodAll_mk1 (shut_bool Try.underlying4 _),(trodAll_cons_mk (Below.trod laidOut (by kernel_rfl) (of_decide_eq_true (by kernel_rfl)) h0 bel lt0) (trodAll_cons_mk (Below.trod laidOut (by kernel_rfl) (of_decide_eq_true (by kernel_rfl)) h1 bel lt1) trodAll_mk0)),rfl,bel.frame _,fun h=>by cases h⟩
theorem over:Rows.treeAgainRow.holds Try.pinned (OpenSpec.ofChange Rows.treeAgainSpec):=
 OpenClaim.holds_of_wide 7 Try.f7 rfl rfl rfl rfl rfl rfl rfl ⟨rfl,rfl,rfl,rfl,rfl⟩ rfl rfl rfl rfl rfl (by kernel_rfl) Try.func7 (by kernel_rfl)
  (of_decide_eq_true (by kernel_rfl)) (by unfold Func.isWrapper;first | (rw [if_pos (by decide +kernel)];kernel_rfl) | (rw [if_neg (by decide +kernel)];exact ⟨rfl,rfl⟩))
  (fun os started H enc _=>lifted os started H enc)
theorem proved:Rows.TreeAgainSaid:=over
#print axioms proved
end Go.Proofs.Ytingjgfoihjelaa.treeAgain
namespace Go.Proofs.Ytingjgfoihjelaa
theorem treeAgain_holds:Rows.TreeAgainSaid:=treeAgain.proved
end Go.Proofs.Ytingjgfoihjelaa
