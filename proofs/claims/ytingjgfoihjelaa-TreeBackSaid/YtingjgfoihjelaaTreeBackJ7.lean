/- TreeBack, part 7 of 7. WHAT IS PROVED: TreeBack: whatever the input, the law returns true, and the input reads as it did. No condition. -/
import Derived.Test.YtingjgfoihjelaaRows
import Derived.WalkKit
import Derived.ProofKit
import Derived.OpenShut
import Derived.ShutString
import Derived.ChangeOld
import Derived.Below
import Derived.SizedLaws
import Derived.Carry
import Derived.Test.YtingjgfoihjelaaTreeBackJ1
import Derived.Test.YtingjgfoihjelaaTreeBackJ2
import Derived.Test.YtingjgfoihjelaaTreeBackJ3
import Derived.Test.YtingjgfoihjelaaTreeBackJ4
import Derived.Test.YtingjgfoihjelaaTreeBackJ5
import Derived.Test.YtingjgfoihjelaaTreeBackJ6
set_option maxRecDepth 100000
set_option maxHeartbeats 20000000
set_option linter.all false
open List renaming getElem?_eq_some_iff -> aAg, getElem?_eq_getElem -> aAh, mem_of_getElem? -> aAi, length_map -> aAj, getElem?_map -> aAk, getElem?_append_right -> aAl, getElem?_append_left -> aAm, length_take -> aAn, length_append -> aAo, length_cons -> aAp, length_nil -> aAq, length_set -> aAr, length_drop -> aAs, getElem?_set_self -> aAt, getElem?_set_ne -> aAu, take_of_length_le -> aAv, mem_cons_self -> aAw, mem_cons_of_mem -> aAx, take_length -> aAy, map_map -> aAz, mem_singleton -> aA0, drop_eq_nil_of_le -> aA1, getElem?_take -> aA2, getElem?_drop -> aA3, getD_eq_getElem?_getD -> aA4, pairwise_append -> aA5, mem_append -> aA6, mem_of_mem_take -> aA7, mem_of_mem_drop -> aA8, find?_cons -> aA9, mem_flatMap -> aBa, getElem?_cons_zero -> aBb, getElem?_cons_succ -> aBc, append_assoc -> aBd, mem_map -> aBe, all_eq_true -> aBf, mem_range -> aBg, getElem_mem -> aBh, drop_eq_getElem_cons -> aBi, length_replicate -> aBj, getElem?_toArray -> aBz, mem_iff_getElem? -> aB6
open Int renaming toNat_natCast -> aBk
open Nat renaming eq_of_beq_eq_true -> aBl, lt_of_lt_of_le -> aBm, lt_or_ge -> aBn, lt_succ_self -> aBo, zero_le -> aBp, le_refl -> aBq, le_trans -> aBr, le_succ -> aBw, sub_self -> aB4, add_sub_cancel -> aB5
open Option renaming map_eq_some_iff -> aBs, map_some -> aB1, getD_some -> aB2
open Option.some renaming inj -> aBt
open Bool renaming and_eq_true -> aBu, false_ne_true -> aBv, or_eq_true -> aB3
open Array renaming getElem?_toList -> aBx, getElem?_eq_some_iff -> aBy, length_toList -> aB0
namespace Go.Proofs.Ve
open Go
theorem pS {n:Node} (h:n.kids.length=n.keys.length+1):leafN n=false:=by
 cases hq:leafN n with
 | false=>rfl
 | true=>have:=iI hq;rw [this] at h;simp at h
theorem tX {d:Nat} {n:Node} (h:shN (d+2) n):n.kids.length=n.keys.length+1:=by
 rcases h.2.2 with ⟨hz,_⟩ | ⟨hm,_⟩
 . cases hz
 . exact hm
theorem rm_noC {d f:Nat} {n:Node} {k:List UInt8} (ih:∀ c:Node,RmOk (d+1) c->0 < c.keys.length->RmC c k (bL f c k)) (h:RmOk (d+2) n) (hno:bsIs n.keys k=false) (h0:0 < n.keys.length) :
 RmC n k (bL (f+1) n k):=by
 have h2:=tX h.sh
 have hf:=vR h hno h2 h0
 have hlf:=pS h2
 have hle:=cM n.keys k
 have hl:=fun H=>d_fillD n (bs n.keys k) h.sh h.mn (by omega) (by omega) H
 unfold bL
 rw [if_neg (by rw [hlf];decide),if_neg (by rw [hno];decide),if_neg (by rw [hf.no];decide)]
 generalize (cD n (bs n.keys k)).1=m at hf hl ⊢
 generalize (cD n (bs n.keys k)).2=i at hf hl ⊢
 have hc:=aX hf.lt
 have hm3:=hf.ok.sh.2.1
 have hmk:=tX hf.ok.sh
 obtain ⟨hk,_⟩:=hf.ok.kid hc (by have:=hf.lt;omega)
 exact rm_w4 n k h.sh.2.1 h.sh.1 hlf h2 hno m _ i hf.lt (by omega) (by omega) hf.no hl (ih _ hk (by have:=hf.two;omega))
theorem rmC (d:Nat):∀ (f:Nat) (n:Node) (k:List UInt8),RmOk d n->2*d<=f->(n.kids = []\/0 < n.keys.length)->RmC n k (bL f n k):=by
 induction d with
 | zero=>exact fun f n k h=>h.sh.elim
 | succ d ih=>
 intro f n k h hf hn
 obtain ⟨f,rfl⟩:∃ f',f=f'+1:=⟨f - 1,by omega⟩
 obtain ⟨h1,h3,h4⟩:=h.sh
 rcases h4 with ⟨_,h4⟩ | ⟨h4,h5⟩
 . have hlf:leafN n=true:=by unfold leafN;rw [h4];rfl
   unfold bL
   rw [if_pos hlf]
   exact rm_w0 n k h3 h1 hlf
 have h0:0 < n.keys.length:=by
  rcases hn with hn | hn
  . rw [hn] at h4;simp at h4
  . exact hn
 obtain ⟨c0,hc0⟩:∃ c,n.kids[0]? = some c:=⟨_,aAh (by omega)⟩
 obtain ⟨d,rfl⟩:=iB (h5 c0 (aAi hc0))
 have hno':∀ (f:Nat) (m:Node),2*(d+1)<=f->RmOk (d+2) m->bsIs m.keys k=false->0 < m.keys.length->RmC m k (bL (f+1) m k):=fun f m hf hm hno hm0=>
  rm_noC (fun c hc hcl=>ih f c k hc hf (.inr hcl)) hm hno hm0
 by_cases q:bsIs n.keys k=false
 . exact hno' f n (by omega) h q h0
 have q:bsIs n.keys k=true:=by simpa using q
 have hlt:=eX q
 have hkey:=eJ.1 q
 have hsk:=bW h1 h.so
 have below:=(fR hsk k).1
 obtain ⟨ab1,ab2,_⟩:=about h1 h.so k
 obtain ⟨ab2,_⟩:=ab2 q
 have hlf:=pS h4
 have hw1:=rm_w1 n k h3 h1 hlf h4 q
 have hw2:=rm_w2 n k h3 h1 hlf h4 q
 have hw3:=rm_w3 n k h3 h1 hlf h4 q
 unfold bL
 rw [if_neg (by rw [hlf];decide),if_pos q]
 generalize hi:bs n.keys k=i at *
 have ka:=aX (n:=n) (i:=i) (by omega)
 have kb:=aX (n:=n) (i:=i+1) (by omega)
 obtain ⟨oa,la⟩:=h.kid ka (by omega)
 obtain ⟨ob,lb⟩:=h.kid kb (by omega)
 by_cases c1:1 < (aA n (i+1)).keys.length
 . rw [if_pos c1,kL _ _ ob.sh f (by omega)]
   exact hw1 c1 _ _ (thru_first (d+1) (aA n (i+1)) ob.sh ob.mn lb) (ih f (aA n (i+1)) _ ob (by omega) (.inr (by omega)))
 rw [if_neg c1]
 by_cases c2:1 < (aA n i).keys.length
 . rw [if_pos c2]
   obtain ⟨r1,r2,r3⟩:=h.lend h4 (i:=i+1) (j:=i) (.inl ⟨rfl,by omega⟩) (by omega) c2
   have e:bH n (i+1) i=bP n i (bA (aA n i) ((aA n i).keys.length - 1)) (eI (aA n i)) (eH (aA n (i+1)) (aA n i) (bA n i)):=by
    unfold bH;rw [if_pos (aBo _)]
   obtain ⟨v,hv⟩:=mV (d:=d) (n:=aA n i) oa.sh.1 (getD_of (l:=(aA n i).keys) (i:=(aA n i).keys.length - 1) (d:=[]) (by omega))
   have hlow:=ab2 _ (by rw [dU ka];exact hv)
   have hkeys:(bH n (i+1) i).keys=n.keys.set i ((aA n i).keys.getD ((aA n i).keys.length - 1) []):=by rw [e];rfl
   obtain ⟨p1,p2⟩:=iJ (k:=k) (i:=i+1) (bW r1.sh.1 r1.so) (by rw [r3];omega) (fun t a ht ha=>by
    rw [hkeys] at ha
    by_cases hj:t=i
    . subst hj
      rw [aAt (by omega)] at ha
      cases ha
      exact hlow
    . rw [aAu (fun e=>hj e.symm)] at ha
      exact below t a (by omega) ha) (fun t a ht ha=>by
    rw [hkeys,aAu (by omega)] at ha
    have:=fQ hsk (by omega:i < t) hkey ha
    have f:=dS k a
    omega)
   obtain ⟨f,rfl⟩:∃ f',f=f'+1:=⟨f - 1,by omega⟩
   exact hw2 c1 c2 _ _ (fun H=>tW n i h.sh (by omega) (by omega) (by omega) H) (hno' f _ (by omega) r1 p2 (by omega))
 rw [if_neg c2]
 obtain ⟨r1,r2,r3⟩:=h.join h4 (by omega) (by omega:(aA n i).keys.length+(aA n (i+1)).keys.length < 3)
 have hmk:=tX r1.sh
 have e:=fV ka kb
 have hT:(n.kids.take i).length=i:=by rw [aAn];omega
 have e2:aA (bG n i) i=cR (aA n i) (n.keys.getD i [],n.chains.getD i []) (aA n (i+1)):=by
  rw [e]
  unfold aA
  show (n.kids.take i++_::n.kids.drop (i+2)).getD i _=_
  rw [aA4,aAl (by omega),hT,aB4];rfl
 have htwo:2<=(aA (bG n i) i).keys.length:=by
  rw [e2]
  show 2<=((aA n i).keys ++ [_]++(aA n (i+1)).keys).length
  simp only [aAo,aAp,aAq];omega
 have hil:i < (bG n i).kids.length:=by omega
 have kc:=aX hil
 obtain ⟨oc,_⟩:=r1.kid kc (by omega)
 have hm3:=r1.sh.2.1
 exact hw3 c1 c2 _ _ hil (by omega) (fun H=>mX n i _ _ h.sh ka kb H) (ih f _ k oc (by omega) (.inr (by omega)))
theorem d_DelD (d:Nat) (n:Node) (k:List UInt8) (c:List Ver) (R:Node) (hd:d<=16) (hn:nOk d n) (hk:k.length<=1000000) (hok:aY d n=true) (hc:fA d n k=some c)
 (hR:RmC n k R) (h0:leafN R=false->0 < R.kids.length) (hRk:R.kids.length < 1000000) (H:List (List Blk)) :
 aB X H 29 [pNode n,.d (aJ k)] (.tuple [nodeV (iL R),.d (.int .i64 0)]) (nodeR (iL R)):=by
 have hchk:=fun H=>dB d n (by omega) hn H
 have hown:=fun H=>d_ownD d n hn H
 have hfind:=fun H=>mO d n k hd hn H
 have hrm:=fun H=>hR H
 have hlf:=fun H=>lB R R.keys.length R.chains.length H
 unfold nodeR nodeV at hrm
 rw [hok] at hchk
 rw [hc] at hfind
 unfold sR at hfind
 have l3:R.kids.length=(R.kids.map ownN).length:=(aAj ..).symm
 unfold nodeR nodeV iL
 by_cases hr:R.keys.length=0/\leafN R=false
 . rw [if_pos hr]
   obtain ⟨r1,r2⟩:=hr
   have h0:=h0 r2
   rw [r2] at hlf
   have hN:(R.kids.map ownN)[((0:Nat):Int).toNat]? = some [.own 27 1 (aF (aA R 0).keys),.own 32 1 (aG (aA R 0).chains),.own 26 3 ((aA R 0).kids.map ownN)]:=by rw [aBk];exact bV (aX h0)
   generalize hD:aA R 0=c0 at *
   have n1:=noOwn_K c0.keys
   have n2:=noOwn_C c0.chains
   have t1:c0.keys.length=(aF c0.keys).length:=(dM _).symm
   have t2:c0.chains.length=(aG c0.chains).length:=(gK _).symm
   have t3:c0.kids.length=(c0.kids.map ownN).length:=(eE _).symm
   rw [t1,t2,t3]
   have f1:((R.keys.length:Int)==0)=true:=by rw [r1];rfl
   refine callEq_of_bodyD aT false false [26] [] (mo:=[]) (by kernel_rfl) Try.func29 rfl ?_
   conv=>whnf
   repeat' (first
    | (refine ⟨l3,?_⟩;conv=>whnf)
    | (refine ⟨by omega,by omega,?_⟩;conv=>whnf)
    | (refine ⟨_,_,(hchk _).mdd _ _ _ _,True.intro,?_⟩;conv=>whnf)
    | (refine ⟨_,_,(hfind _).mdd _ _ _ _,True.intro,?_⟩;conv=>whnf)
    | (refine ⟨_,_,(hown _).mdd _ _ _ _,True.intro,?_⟩;conv=>whnf)
    | (refine ⟨_,_,(c103 k (by omega) _).mdd _ _ _ _,True.intro,?_⟩;conv=>whnf)
    | (refine ⟨_,_,_,(hrm _).mdd _ _ _ _,?_⟩;conv=>whnf)
    | (refine ⟨_,_,(hlf _).mdd _ _ _ _,And.intro rfl aZ,?_⟩;conv=>whnf)
    | (refine ⟨_,hN,?_⟩;conv=>whnf)
    | (refine ⟨n1,?_⟩;conv=>whnf)
    | (refine ⟨n2,?_⟩;conv=>whnf)
    | (apply Exists.intro
       apply And.intro
       focus ((repeat' (first | exact hN | exact gE (by first | omega | (simp only [aAr];omega)) | (apply kM;focus omega)));done)
       conv=>whnf)
    | (refine And.intro (fun q=>absurd q aBv) (fun _=>?_);conv=>whnf)
    | (refine And.intro (fun q=>absurd q (by decide)) (fun _=>?_);conv=>whnf)
    | (refine And.intro (fun _=>?_) (fun q=>absurd q (by decide));conv=>whnf)
    | (refine And.intro (fun _=>?_) (fun q=>absurd (f1.symm.trans q) (by decide));conv=>whnf)
    | (refine And.intro (fun q=>absurd (f1.symm.trans q) (by decide)) (fun _=>?_);conv=>whnf)
    | fail)
   refine ⟨[9,10,11],rfl,?_⟩
   (repeat' (first | exact True.intro | exact rfl | refine And.intro ?_ ?_))
 . rw [if_neg hr]
   have key:(∃ b,leafN R=b/\((R.keys.length:Int)==0)=false)\/(leafN R=true/\((R.keys.length:Int)==0)=true):=by
    by_cases hz:R.keys.length=0
    . right
      refine ⟨?_,by rw [hz];rfl⟩
      cases hl:leafN R with
      | true=>rfl
      | false=>exact absurd ⟨hz,hl⟩ hr
    . left;exact ⟨_,rfl,by simpa using hz⟩
   rcases key with ⟨b,hb,f1⟩ | ⟨hb,f1⟩ <;> rw [hb] at hlf
   . skip
     refine callEq_of_bodyD aT false false [26] [] (mo:=[]) (by kernel_rfl) Try.func29 rfl ?_
     conv=>whnf
     repeat' (first
      | (refine ⟨l3,?_⟩;conv=>whnf)
      | (refine ⟨by omega,by omega,?_⟩;conv=>whnf)
      | (refine ⟨_,_,(hchk _).mdd _ _ _ _,True.intro,?_⟩;conv=>whnf)
      | (refine ⟨_,_,(hfind _).mdd _ _ _ _,True.intro,?_⟩;conv=>whnf)
      | (refine ⟨_,_,(hown _).mdd _ _ _ _,True.intro,?_⟩;conv=>whnf)
      | (refine ⟨_,_,(c103 k (by omega) _).mdd _ _ _ _,True.intro,?_⟩;conv=>whnf)
      | (refine ⟨_,_,_,(hrm _).mdd _ _ _ _,?_⟩;conv=>whnf)
      | (refine ⟨_,_,(hlf _).mdd _ _ _ _,And.intro rfl aZ,?_⟩;conv=>whnf)
      | (refine And.intro (fun q=>absurd q aBv) (fun _=>?_);conv=>whnf)
      | (refine And.intro (fun q=>absurd q (by decide)) (fun _=>?_);conv=>whnf)
      | (refine And.intro (fun _=>?_) (fun q=>absurd q (by decide));conv=>whnf)
      | (refine And.intro (fun _=>?_) (fun q=>absurd (f1.symm.trans q) (by decide));conv=>whnf)
      | (refine And.intro (fun q=>absurd (f1.symm.trans q) (by decide)) (fun _=>?_);conv=>whnf)
      | fail)
     refine ⟨[5,6,7],rfl,?_⟩
     (repeat' (first | exact True.intro | exact rfl | refine And.intro ?_ ?_))
   . skip
     refine callEq_of_bodyD aT false false [26] [] (mo:=[]) (by kernel_rfl) Try.func29 rfl ?_
     conv=>whnf
     repeat' (first
      | (refine ⟨l3,?_⟩;conv=>whnf)
      | (refine ⟨by omega,by omega,?_⟩;conv=>whnf)
      | (refine ⟨_,_,(hchk _).mdd _ _ _ _,True.intro,?_⟩;conv=>whnf)
      | (refine ⟨_,_,(hfind _).mdd _ _ _ _,True.intro,?_⟩;conv=>whnf)
      | (refine ⟨_,_,(hown _).mdd _ _ _ _,True.intro,?_⟩;conv=>whnf)
      | (refine ⟨_,_,(c103 k (by omega) _).mdd _ _ _ _,True.intro,?_⟩;conv=>whnf)
      | (refine ⟨_,_,_,(hrm _).mdd _ _ _ _,?_⟩;conv=>whnf)
      | (refine ⟨_,_,(hlf _).mdd _ _ _ _,And.intro rfl aZ,?_⟩;conv=>whnf)
      | (refine And.intro (fun q=>absurd q aBv) (fun _=>?_);conv=>whnf)
      | (refine And.intro (fun q=>absurd q (by decide)) (fun _=>?_);conv=>whnf)
      | (refine And.intro (fun _=>?_) (fun q=>absurd q (by decide));conv=>whnf)
      | (refine And.intro (fun _=>?_) (fun q=>absurd (f1.symm.trans q) (by decide));conv=>whnf)
      | (refine And.intro (fun q=>absurd (f1.symm.trans q) (by decide)) (fun _=>?_);conv=>whnf)
      | fail)
     refine ⟨[5,6,7],rfl,?_⟩
     (repeat' (first | exact True.intro | exact rfl | refine And.intro ?_ ?_))
theorem d_DelM (d:Nat) (n:Node) (k:List UInt8) (hd:d<=16) (hn:nOk d n) (hok:aY d n=true) (hc:fA d n k=none) (H:List (List Blk)) :
 aB X H 29 [pNode n,.d (aJ k)] (.tuple [nodeV n,.d (.int .i64 61)]) (nodeR n):=by
 have hchk:=fun H=>dB d n (by omega) hn H
 have hown:=fun H=>d_ownD d n hn H
 have hfind:=fun H=>mO d n k hd hn H
 rw [hok] at hchk
 rw [hc] at hfind
 unfold sR at hfind
 unfold nodeR nodeV
 refine callEq_of_bodyD aT false false [26] [] (mo:=[]) (by kernel_rfl) Try.func29 rfl ?_
 conv=>whnf
 refine ⟨_,_,(hchk _).mdd _ _ _ _,True.intro,?_⟩
 conv=>whnf
 refine And.intro (fun q=>absurd q (by decide)) (fun _=>?_)
 conv=>whnf
 refine ⟨_,_,(hfind _).mdd _ _ _ _,True.intro,?_⟩
 conv=>whnf
 refine And.intro (fun _=>?_) (fun q=>absurd q (by decide))
 conv=>whnf
 refine ⟨_,_,(hown _).mdd _ _ _ _,True.intro,?_⟩
 conv=>whnf
 refine ⟨[2,3,4],rfl,?_⟩
 (repeat' (first | exact True.intro | exact rfl | refine And.intro ?_ ?_))
noncomputable def XL:Cx:={ X with give:=(24+1000)::X.give }
theorem XL_ok:XL.Ok:=⟨aT.rows,aT.closed,aT.funs,aT.mix,by kernel_rfl,aT.cmps,aT.grows⟩
theorem aB.xl {H:List (List Blk)} {f:Nat} {args:List PV} {r:PV} {N:List RowB} (h:aB X H f args r N):aB XL H f args r N:=aB.at (C:=X) (D:=XL) rfl h
theorem aB.lx {H:List (List Blk)} {f:Nat} {args:List PV} {r:PV} {N:List RowB} (h:aB XL H f args r N):aB X H f args r N:=aB.at (C:=XL) (D:=X) rfl h
theorem aE.xl {H:List (List Blk)} {f:Nat} {G:List RowB} {args:List PV} {G':List (Option RowB)} {r:PV} {N:List RowB} (h:aE X H f G args G' r N):aE XL H f G args G' r N:=aE.at (C:=X) (D:=XL) rfl h
theorem uU (n:Node) (h3:n.keys.length=3) (h4:n.chains.length=3) (h5:n.kids.length < 1000000) (H:List (List Blk)) :
 aE X H 49 [⟨26,67,[[.own 27 1 (aF n.keys),.own 32 1 (aG n.chains),.own 26 3 (n.kids.map ownN)]]⟩] [.agg [.nils,.nils,.row 0 0 1],.d (.int .i64 0)] [none] (nodeV (splitN (cV n) 0)) (nodeR (splitN (cV n) 0)):=by
 have h:=d_splitD (cV n) 0 n rfl h3 h4 h5 (by show (0:Nat) < 900000;decide) (by show (0:Nat) < 900000;decide) (by show (1:Nat) < 900000;decide) (aBp _) (aBp _) H
 have e:nodeR (cV n) = [⟨27,1,[]⟩,⟨32,1,[]⟩,⟨26,67,[[.own 27 1 (aF n.keys),.own 32 1 (aG n.chains),.own 26 3 (n.kids.map ownN)]]⟩]:=by
  rw [<- ownN_eq];rfl
 rw [e] at h
 exact aAf (by unfold nodeV;simp [inN,insN,nodeR]) h
theorem d_PutF (d f:Nat) (n:Node) (k:List UInt8) (l:List Ver) (hd:d < 1000000) (hn:nOk d n) (h3:n.keys.length=3) (h4:n.chains.length=3) (hk:k.length<=1000000) (hl:l.length < 1000000) (hlv:∀ x ∈ l,x.val.length<=1000000)
 (hok:eP d n k l=true) (hgo:putGo f (splitN (cV n) 0) k) (H:List (List Blk)) :
 aB X H 28 [pNode n,.d (aJ k),.d (encVs l)] (.tuple [nodeV (putN f (splitN (cV n) 0) k l),.d (.int .i64 0)]) (nodeR (putN f (splitN (cV n) 0) k l)):=by
 have hchk:=fun H=>(dB d n hd hn H).xl
 have hown:=fun H=>(d_ownD d n hn H).xl
 have hput:=fun H=>(sZ k l f (splitN (cV n) 0) hgo H).xl
 have hkids:n.kids.length < 1000000:=by
  cases d with
  | zero=>exact hn.elim
  | succ d=>cases n with | mk a b c=>have h:c.length < 100000:=nOk_kids hn;show c.length < 1000000;omega
 have hsp:=fun H=>(uU n h3 h4 hkids H).xl
 have h103:=fun H=>(c103 k (by omega) H).xl
 unfold nodeR nodeV at hput hsp
 have hv:=fun H=>(d_vscheck l hl H).xl
 have hvs:=fun H=>(pE l hl hlv H).xl
 simp only [eP,aBu,decide_eq_true_eq,Bool.not_eq_true'] at hok
 obtain ⟨o1,o2,o3,o4⟩:=hok
 rw [o1] at hchk
 rw [o4] at hv
 have e1:((k.map fun x=>[DV.int .u8 (x.toNat:Int)]).length:Int)=k.length:=by rw [aAj]
 have e2:((l.map cVer).length:Int)=l.length:=by rw [aAj]
 have l1:n.keys.length=(aF n.keys).length:=(aAj ..).symm
 have l2:n.chains.length=(aG n.chains).length:=(aAj ..).symm
 have l3:n.kids.length=(n.kids.map ownN).length:=(aAj ..).symm
 unfold nodeR nodeV
 generalize hS:splitN (cV n) 0=S at hput hsp ⊢
 generalize putN f S k l=R at hput ⊢
 refine aB.lx ?_
 refine callEq_of_bodyD XL_ok false false [26] [] (mo:=[]) (by kernel_rfl) Try.func28 rfl ?_
 conv=>whnf
 refine ⟨_,_,(hchk _).mdd _ _ _ _,True.intro,?_⟩
 conv=>whnf
 refine And.intro (fun q=>?_) (fun q=>?_)
 rotate_left
 . exact absurd q (by decide)
 conv=>whnf
 refine And.intro (fun q=>?_) (fun q=>?_)
 rotate_left
 . exfalso
   have q:=of_decide_eq_true q
   rw [e1] at q;omega
 conv=>whnf
 refine And.intro (fun q=>?_) (fun q=>?_)
 rotate_left
 . exfalso
   rw [e2,o3] at q;cases q
 conv=>whnf
 refine ⟨_,_,(hv _).mdd _ _ _ _,True.intro,?_⟩
 conv=>whnf
 refine And.intro (fun q=>?_) (fun q=>?_)
 . exact absurd q (by decide)
 conv=>whnf
 refine ⟨_,_,(hown _).mdd _ _ _ _,True.intro,?_⟩
 conv=>whnf
 refine And.intro (fun q=>?_) (fun q=>?_)
 rotate_left
 . exfalso
   rw [h3] at q
   exact absurd q (by decide)
 conv=>whnf
 refine ⟨l1,?_⟩
 conv=>whnf
 refine ⟨l2,?_⟩
 conv=>whnf
 refine ⟨l3,?_⟩
 conv=>whnf
 refine ⟨_,_,_,(hsp _).mdd _ _ _ _,?_⟩
 conv=>whnf
 refine ⟨_,_,(h103 _).mdd _ _ _ _,True.intro,?_⟩
 conv=>whnf
 refine ⟨_,_,(hvs _).mdd _ _ _ _,True.intro,?_⟩
 conv=>whnf
 refine ⟨_,_,_,(hput _).mdd _ _ _ _,?_⟩
 conv=>whnf
 refine ⟨[10,11,12],rfl,?_⟩
 (repeat' (first | exact True.intro | exact rfl | refine And.intro ?_ ?_))
def kvOk (p:KV):Prop:=p.1.length<=1000000/\p.2.length < 100000 /\ ∀ v ∈ p.2,v.val.length<=1000000
theorem pT:∀ (d:Nat) (n:Node),shN d n->(∀ p ∈ aD d n,kvOk p)->nOk d n
 | 0,n,h,_=>h.elim
 | d+1,n,⟨h1,h2,h3⟩,hp=>by
   have kids4:n.kids.length<=4:=by
    rcases h3 with ⟨_,h3⟩ | ⟨h3,_⟩
    . rw [h3];exact aBp _
    . omega
   refine ⟨by omega,by omega,by omega,fun x hx=>?_,fun y hy=>?_,fun x hx=>?_⟩
   . obtain ⟨j,hj⟩:=aB6.1 hx
     obtain ⟨c,hc⟩:=mV (d:=d) h1 hj
     exact (hp _ hc).1
   . obtain ⟨j,hj⟩:=aB6.1 hy
     have hlt:j < n.keys.length:=by have:=(aAg.1 hj).1;omega
     obtain ⟨c,hc,hpd⟩:=eQ h1 (aAh hlt)
     obtain rfl:c=y:=aBt (hc.symm.trans hj)
     exact (hp (n.keys[j],c) (by rw [dD d n j (Nat.le_of_lt hlt),hpd];simp)).2
   . rcases h3 with ⟨_,h3⟩ | ⟨h3,h4⟩
     . rw [h3] at hx;cases hx
     . obtain ⟨j,hj⟩:=aB6.1 hx
       have hlt:=(aAg.1 hj).1
       refine pT d x (h4 x hx) (fun p hpx=>hp p ?_)
       show p ∈ (List.range (n.keys.length+1)).flatMap fun i=>cY (aD d) n i++bI n i
       rw [aBa]
       exact ⟨j,aBg.2 (by omega),List.mem_append_left _ (by unfold cY;rw [hj];exact hpx)⟩
structure Is (d:Nat) (n:Node) (L:List KV):Prop where
 ok:nOk d n
 ch:aY d n=true
 li:aD d n=L
theorem Is.kv {d:Nat} {n:Node} {L:List KV} (h:Is d n L):∀ p ∈ L,kvOk p:=fun p hp=>by rw [<- h.li] at hp;exact lL d n h.ok p hp
theorem Is.chl {d:Nat} {n:Node} {L:List KV} (h:Is d n L):dQ none L=true:=by
 have:=h.ch
 unfold aY at this
 split at this
 . cases this
 . rw [h.li] at this;exact this
theorem Is.so {d:Nat} {n:Node} {L:List KV} (h:Is d n L):bJ L:=(eD _ _ h.chl).1
theorem Is.pr {d:Nat} {n:Node} {L:List KV} (h:Is d n L):dL d n=L:=by rw [yK h.ch,h.li]
theorem Is.ks {d:Nat} {n:Node} {L:List KV} (h:Is d n L):eF d n=L.map (·.1):=by rw [tD,h.pr]
theorem Is.fi {d:Nat} {n:Node} {L:List KV} (h:Is d n L) (k:List UInt8):fA d n k=(L.find? (eqP k)).map (·.2):=by rw [tE h.ok,h.pr]
theorem Is.len {d:Nat} {n:Node} {L:List KV} (h:Is d n L) (hd:d<=16):L.length < 4294967296:=by rw [<- h.pr];exact yL hd h.ok
theorem vS {k:List UInt8} {l:List Ver}:∀ {L:List KV} {p:KV},p ∈ bQ k l L->p=(k,l)\/p ∈ L
 | [],p,h=>.inl (aA0.1 h)
 | q::L,p,h=>by
   unfold bQ at h
   split at h
   . rcases List.mem_cons.1 h with rfl | h
     . exact .inr (aAw ..)
     . rcases vS h with h | h
       . exact .inl h
       . exact .inr (aAx _ h)
   . split at h
     . rcases List.mem_cons.1 h with h | h
       . exact .inl h
       . exact .inr (aAx _ h)
     . rcases List.mem_cons.1 h with h | h
       . exact .inl h
       . exact .inr h
theorem yZ {d:Nat} {n:Node} {k:List UInt8} {l:List Ver} (hn:nOk d n) (hok:aY d n=true) (h3:n.keys.length=3) (hk:k.length<=16) (hl:l.length≠0) (hv:vsOk l=true) :
 ∃ e,e+1<=d/\n.chains.length=3/\putGo (2*(e+2)) (splitN (cV n) 0) k/\shN (e+2) (putN (2*(e+2)) (splitN (cV n) 0) k l)/\aD (e+2) (putN (2*(e+2)) (splitN (cV n) 0) k l)=bQ k l (aD d n)/\aY (e+2) (putN (2*(e+2)) (splitN (cV n) 0) k l)=true:=by
 unfold aY at hok
 split at hok
 . cases hok
 rename_i h0
 have h0:deepN n 0≠0:=by simpa using h0
 obtain ⟨e,he,he2,hsh⟩:=fU d n 0 hn h0
 have hmn:=nE (e+1) d n he (jI d n 0 hn h0)
 have hA:=kF (e+1) n hsh d he
 rw [hA] at hok ⊢
 have hc:(cV n).kids[0]? = some n:=rfl
 have hR:shN (e+2) (cV n):=⟨rfl,aBp _,.inr ⟨rfl,fun c hcm=>by
  rw [aA0.1 (show c ∈ [n] from hcm)];exact hsh⟩⟩
 have hM:mnN (e+2) (cV n):=fun c hcm=>by
  rw [aA0.1 (show c ∈ [n] from hcm)];exact ⟨by omega,hmn⟩
 obtain ⟨c1,c2⟩:=jV hsh h3
 have hS:=iA e (cV n) n 0 hc rfl rfl h3 c1 c2
 have hT:aD (e+2) (cV n)=aD (e+1) n:=by
  rw [aM (e+1) (cV n) rfl (.inl rfl)]
  exact kE _
 rw [hT] at hS
 have hkeys:(splitN (cV n) 0).keys.length=1:=by rw [fD hc];rfl
 have hsh2:=jW hR (by show (0:Nat) < 3;decide) hc h3
 obtain ⟨p1,p2,p3,p4⟩:=zS (k:=k) (l:=l) hsh2 (tM hM hc h3) (by rw [hS];exact hok) (.inr (by omega)) (by omega) hk hl hv
 have hs:bJ (aD (e+2) (splitN (cV n) 0)):=by rw [hS];exact (eD _ _ hok).1
 rw [hS] at p2
 exact ⟨e,he,c1,p1,(mT k l (2*(e+2)) (e+2) _ hsh2 hs p1 (.inl (by omega))).1,p2,p4⟩
theorem lC (n:Node) (z:Int):fz (nodeR n) 3 (.tuple [nodeV n,.d (.int .i64 z)]) = .tuple [pNode n,.d (.int .i64 z)]:=by
 have l1:(aF n.keys).length=n.keys.length:=aAj ..
 have l2:(aG n.chains).length=n.chains.length:=aAj ..
 have l3:(n.kids.map cNode).length=n.kids.length:=aAj ..
 show PV.tuple [.agg [.d (.sl ((aF n.keys).take n.keys.length)),.d (.sl ((aG n.chains).take n.chains.length)),.d (.sl ((plRows (n.kids.map ownN)).take n.kids.length))],.d (.int .i64 z)]=_
 rw [pl_kids,aAv (by omega),aAv (by omega),aAv (by omega)]
 rfl
theorem tY {d:Nat} {n:Node} {L:List KV} (h:Is d n L) (hd:d < 1000000) {k:List UInt8} {l:List Ver} (hk:k.length<=16) (hl:l.length≠0) (hl2:l.length < 100000) (hv:vsOk l=true) (hlv:∀ v ∈ l,v.val.length<=1000000) :
 ∃ d' R,d'<=d+1/\Is d' R (bQ k l L) /\ ∀ H,aB X H 28 [pNode n,.d (aJ k),.d (encVs l)] (.tuple [pNode R,.d (.int .i64 0)]) []:=by
 have hpo:eP d n k l=true:=by
  unfold eP
  rw [h.ch,hv,decide_eq_true (by omega:(k.length:Int)<=16)]
  have:((l.length:Int)==0)=false:=by simpa using hl
  rw [this];rfl
 have kv:∀ p ∈ bQ k l L,kvOk p:=fun p hp=>by
  rcases vS hp with rfl | hp
  . exact ⟨by show k.length<=1000000;omega,hl2,hlv⟩
  . exact h.kv p hp
 rcases aBn n.keys.length 3 with h3 | h3
 . obtain ⟨e,he,hgo,hli,hsh,_,hch⟩:=yT (k:=k) (l:=l) h.ok h.ch h3 hk hl hv
   rw [h.li] at hli
   exact ⟨e+1,_,by omega,⟨pT _ _ hsh (by rw [hli];exact kv),hch,hli⟩,fun H=>
    (d_PutD d _ n k l hd h.ok h3 (by omega) (by omega) hlv hpo hgo H).freeze 3 (lC _ _)⟩
 . have h3:n.keys.length=3:=by
    have hc:=h.ch
    unfold aY at hc
    split at hc
    . cases hc
    . rename_i h0
      obtain ⟨e,_,_,hsh⟩:=fU d n 0 h.ok (by simpa using h0)
      have:=hsh.2.1
      omega
   obtain ⟨e,he,h4,hgo,hsh,hli,hch⟩:=yZ (k:=k) (l:=l) h.ok h.ch h3 hk hl hv
   rw [h.li] at hli
   exact ⟨e+2,_,by omega,⟨pT _ _ hsh (by rw [hli];exact kv),hch,hli⟩,fun H=>
    (d_PutF d _ n k l hd h.ok h3 h4 (by omega) (by omega) hlv hpo hgo H).freeze 3 (lC _ _)⟩
theorem qN {d:Nat} {n:Node} (hn:nOk d n) (hd:d < 1000000) {k:List UInt8} {l:List Ver} (hl2:l.length < 1000000) (hp:eP d n k l=false) (H:List (List Blk)) :
 aB X H 28 [pNode n,.d (aJ k),.d (encVs l)] (.tuple [pNode n,.d (.int .i64 1)]) []:=(d_PutED d n k l hd hn hl2 hp H).freeze 3 (lC _ _)
theorem vT {d:Nat} {n:Node} {L:List KV} (h:Is d n L) (hd:d<=16) {k:List UInt8} (hf:L.find? (eqP k)=none) (H:List (List Blk)) :
 aB X H 29 [pNode n,.d (aJ k)] (.tuple [pNode n,.d (.int .i64 61)]) []:=(d_DelM d n k hd h.ok h.ch (by rw [h.fi,hf];rfl) H).freeze 3 (lC _ _)
theorem wX {d:Nat} {n:Node} {k:List UInt8} (hn:nOk d n) (hok:aY d n=true) :
 ∃ e e':Nat,e+1<=d/\e'<=e/\RmC n k (bL (2*(e+1)) n k)/\shN (e+1) (bL (2*(e+1)) n k)/\shN (e'+1) (iL (bL (2*(e+1)) n k))/\aD (e'+1) (iL (bL (2*(e+1)) n k))=cS k (aD d n)/\aY (e'+1) (iL (bL (2*(e+1)) n k))=true:=by
 unfold aY at hok
 split at hok
 . cases hok
 rename_i h0
 have h0:deepN n 0≠0:=by simpa using h0
 obtain ⟨e,he,he2,hsh⟩:=fU d n 0 hn h0
 have hmn:=nE (e+1) d n he (jI d n 0 hn h0)
 have hA:=kF (e+1) n hsh d he
 rw [hA] at hok ⊢
 have hs:=(eD _ _ hok).1
 have hroot:n.kids = []\/0 < n.keys.length:=by
  obtain ⟨_,_,_,h4⟩:=cH h0
  rcases h4 with ⟨h4,_⟩ | ⟨_,h5,_⟩
  . exact .inl h4
  . exact .inr (by omega)
 have r:=rm (e+1) (2*(e+1)) n k ⟨hsh,hmn,hs⟩ (aBq _) hroot
 have rc:=rmC (e+1) (2*(e+1)) n k ⟨hsh,hmn,hs⟩ (aBq _) hroot
 refine ⟨e,?_⟩
 generalize bL (2*(e+1)) n k=R at r rc ⊢
 have hch:dQ none (aD (e+1) R)=true:=by rw [r.li];exact tT k _ _ hok
 unfold iL
 by_cases hq:R.keys.length=0/\leafN R=false
 . rw [if_pos hq]
   obtain ⟨hq1,hq2⟩:=hq
   obtain ⟨q1,q2,q3⟩:=r.sh
   rcases q3 with ⟨_,q3⟩ | ⟨q3,q4⟩
   . exact absurd q3 (iU hq2)
   have hc:=aX (n:=R) (i:=0) (by omega)
   have hm:=aAi hc
   obtain ⟨e',rfl⟩:=iB (q4 _ hm)
   have hl:aD (e'+2) R=aD (e'+1) (aA R 0):=by
    rw [aM (e'+1) R q1 (.inl q3)]
    have e1:R.kids = [aA R 0]:=by
     have:=dZ hc
     rw [List.take_zero,aA1 (by omega)] at this
     simpa using this
    have e2:prs R = []:=List.eq_nil_of_length_eq_zero (by rw [fS q1];exact hq1)
    rw [e2,e1]
    exact kE _
   have hd:=iD e' (aA R 0) 0 (q4 _ hm) (r.mn _ hm).2 (.inr (by have:=(r.mn _ hm).1;omega)) (by omega)
   refine ⟨e',he,aBw _,rc,r.sh,q4 _ hm,by rw [<- hl,r.li],?_⟩
   unfold aY
   rw [hd,if_neg (by simp only [beq_iff_eq];omega),<- hl]
   exact hch
 . rw [if_neg hq]
   have hr:R.kids = []\/R.keys.length≠0:=by
    by_cases hz:R.keys.length=0
    . left
      cases hl:leafN R with
      | true=>exact iI hl
      | false=>exact absurd ⟨hz,hl⟩ hq
    . exact .inr hz
   have hd:=iD e R 0 r.sh r.mn hr (by omega)
   refine ⟨e,he,aBq _,rc,r.sh,r.sh,r.li,?_⟩
   unfold aY
   rw [hd,if_neg (by simp only [beq_iff_eq];omega)]
   exact hch
theorem tZ {d:Nat} {n:Node} {L:List KV} (h:Is d n L) (hd:d<=16) {k:List UInt8} (hk:k.length<=1000000) {p:KV} (hf:L.find? (eqP k)=some p) :
 ∃ d' R,d'<=d/\Is d' R (cS k L) /\ ∀ H,aB X H 29 [pNode n,.d (aJ k)] (.tuple [pNode R,.d (.int .i64 0)]) []:=by
 obtain ⟨e,e',he,he',hc,hsh0,hsh,hli,hch⟩:=wX (k:=k) h.ok h.ch
 rw [h.li] at hli
 refine ⟨e'+1,_,by omega,⟨pT _ _ hsh (by rw [hli];exact fun p hp=>h.kv p (List.mem_filter.1 hp).1),hch,hli⟩,fun H=>
  (d_DelD d n k p.2 _ hd h.ok hk h.ch (by rw [h.fi,hf];rfl) hc (fun hl=>?_) ?_ H).freeze 3 (lC _ _)⟩
 . rcases hsh0.2.2 with ⟨_,h0⟩ | ⟨h0,_⟩
   . exact absurd h0 (iU hl)
   . omega
 . have:=hsh0.2.1
   rcases hsh0.2.2 with ⟨_,h0⟩ | ⟨h0,_⟩
   . rw [h0];decide
   . omega
def vA:Ver:=⟨1,false,[]⟩
def vB:Ver:=⟨2,false,[]⟩
theorem ok0:nOk 1 (.mk [] [] []):=mP 1 _ (by decide)
theorem chk0:aY 1 (.mk [] [] [])=true:=by decide
theorem rL (z:Int) (H:List (List Blk)):aB X H 34 [.d (.int .i64 z)] (.d (encVs [⟨z,false,[]⟩])) []:=by
 refine callEq_of_body aT rfl Try.func34 rfl ?_
 conv=>whnf
 repeat' (first
  | (refine And.intro (fun h_=>?_) (fun h_=>?_) <;> (conv=>whnf))
  | (intro z_ hz_;conv=>whnf)
  | (refine ⟨[],rfl,?_,True.intro⟩;(conv=>whnf);(first | done | ((repeat' (first | exact True.intro | exact rfl | refine And.intro ?_ ?_));done)))
  | fail)
def mo12:List (Nat × Tr):=[(2,.cut (.alt 0 (.alt 1 (.alt 2 (.alt 3 (.alt 4 (.alt 5 (.alt 6 (.alt 7 (.alt 8 (.alt 9 (.alt 10 .fin .none) .none) .none) .none) .none) .none) (.alt 8 (.alt 4 (.alt 5 (.alt 6 (.alt 7 (.alt 9 (.alt 10 .fin .none) .none) .none) .none) .none) .none) .none)) (.alt 8 (.alt 3 (.alt 4 (.alt 5 (.alt 6 (.alt 7 (.alt 9 (.alt 10 .fin .none) .none) .none) .none) .none) .none) .none) .none)) (.alt 3 (.alt 2 (.alt 4 (.alt 5 (.alt 6 (.alt 7 (.alt 8 (.alt 9 (.alt 10 .fin .none) .none) .none) .none) .none) .none) (.alt 8 (.alt 4 (.alt 5 (.alt 6 (.alt 7 (.alt 9 (.alt 10 .fin .none) .none) .none) .none) .none) .none) .none)) (.alt 8 (.alt 2 (.alt 4 (.alt 5 (.alt 6 (.alt 7 (.alt 9 (.alt 10 .fin .none) .none) .none) .none) .none) .none) .none) .none)) (.alt 8 (.alt 2 (.alt 3 (.alt 4 (.alt 5 (.alt 6 (.alt 7 (.alt 9 (.alt 10 .fin .none) .none) .none) .none) .none) .none) .none) (.alt 3 (.alt 2 (.alt 4 (.alt 5 (.alt 6 (.alt 7 (.alt 9 (.alt 10 .fin .none) .none) .none) .none) .none) .none) .none) .none)) .none))) (.alt 3 (.alt 1 (.alt 2 (.alt 4 (.alt 5 (.alt 6 (.alt 7 (.alt 8 (.alt 9 (.alt 10 .fin .none) .none) .none) .none) .none) .none) (.alt 8 (.alt 4 (.alt 5 (.alt 6 (.alt 7 (.alt 9 (.alt 10 .fin .none) .none) .none) .none) .none) .none) .none)) (.alt 8 (.alt 2 (.alt 4 (.alt 5 (.alt 6 (.alt 7 (.alt 9 (.alt 10 .fin .none) .none) .none) .none) .none) .none) .none) .none)) (.alt 8 (.alt 1 (.alt 2 (.alt 4 (.alt 5 (.alt 6 (.alt 7 (.alt 9 (.alt 10 .fin .none) .none) .none) .none) .none) .none) .none) .none) .none)) (.alt 8 (.alt 1 (.alt 2 (.alt 3 (.alt 4 (.alt 5 (.alt 6 (.alt 7 (.alt 9 (.alt 10 .fin .none) .none) .none) .none) .none) .none) .none) (.alt 3 (.alt 2 (.alt 4 (.alt 5 (.alt 6 (.alt 7 (.alt 9 (.alt 10 .fin .none) .none) .none) .none) .none) .none) .none) .none)) (.alt 3 (.alt 1 (.alt 2 (.alt 4 (.alt 5 (.alt 6 (.alt 7 (.alt 9 (.alt 10 .fin .none) .none) .none) .none) .none) .none) .none) .none) .none)) .none))) (.alt 1 (.alt 0 (.alt 2 (.alt 3 (.alt 4 (.alt 5 (.alt 6 (.alt 7 (.alt 8 (.alt 9 (.alt 10 .fin .none) .none) .none) .none) .none) .none) (.alt 8 (.alt 4 (.alt 5 (.alt 6 (.alt 7 (.alt 9 (.alt 10 .fin .none) .none) .none) .none) .none) .none) .none)) (.alt 8 (.alt 3 (.alt 4 (.alt 5 (.alt 6 (.alt 7 (.alt 9 (.alt 10 .fin .none) .none) .none) .none) .none) .none) .none) .none)) (.alt 3 (.alt 2 (.alt 4 (.alt 5 (.alt 6 (.alt 7 (.alt 8 (.alt 9 (.alt 10 .fin .none) .none) .none) .none) .none) .none) (.alt 8 (.alt 4 (.alt 5 (.alt 6 (.alt 7 (.alt 9 (.alt 10 .fin .none) .none) .none) .none) .none) .none) .none)) (.alt 8 (.alt 2 (.alt 4 (.alt 5 (.alt 6 (.alt 7 (.alt 9 (.alt 10 .fin .none) .none) .none) .none) .none) .none) .none) .none)) (.alt 8 (.alt 2 (.alt 3 (.alt 4 (.alt 5 (.alt 6 (.alt 7 (.alt 9 (.alt 10 .fin .none) .none) .none) .none) .none) .none) .none) (.alt 3 (.alt 2 (.alt 4 (.alt 5 (.alt 6 (.alt 7 (.alt 9 (.alt 10 .fin .none) .none) .none) .none) .none) .none) .none) .none)) .none))) (.alt 2 (.alt 0 (.alt 3 (.alt 4 (.alt 5 (.alt 6 (.alt 7 (.alt 8 (.alt 9 (.alt 10 .fin .none) .none) .none) .none) .none) .none) (.alt 8 (.alt 4 (.alt 5 (.alt 6 (.alt 7 (.alt 9 (.alt 10 .fin .none) .none) .none) .none) .none) .none) .none)) (.alt 8 (.alt 3 (.alt 4 (.alt 5 (.alt 6 (.alt 7 (.alt 9 (.alt 10 .fin .none) .none) .none) .none) .none) .none) .none) .none)) (.alt 3 (.alt 0 (.alt 4 (.alt 5 (.alt 6 (.alt 7 (.alt 8 (.alt 9 (.alt 10 .fin .none) .none) .none) .none) .none) .none) (.alt 8 (.alt 4 (.alt 5 (.alt 6 (.alt 7 (.alt 9 (.alt 10 .fin .none) .none) .none) .none) .none) .none) .none)) (.alt 8 (.alt 0 (.alt 4 (.alt 5 (.alt 6 (.alt 7 (.alt 9 (.alt 10 .fin .none) .none) .none) .none) .none) .none) .none) .none)) (.alt 8 (.alt 0 (.alt 3 (.alt 4 (.alt 5 (.alt 6 (.alt 7 (.alt 9 (.alt 10 .fin .none) .none) .none) .none) .none) .none) .none) (.alt 3 (.alt 0 (.alt 4 (.alt 5 (.alt 6 (.alt 7 (.alt 9 (.alt 10 .fin .none) .none) .none) .none) .none) .none) .none) .none)) .none))) (.alt 3 (.alt 0 (.alt 2 (.alt 4 (.alt 5 (.alt 6 (.alt 7 (.alt 8 (.alt 9 (.alt 10 .fin .none) .none) .none) .none) .none) .none) (.alt 8 (.alt 4 (.alt 5 (.alt 6 (.alt 7 (.alt 9 (.alt 10 .fin .none) .none) .none) .none) .none) .none) .none)) (.alt 8 (.alt 2 (.alt 4 (.alt 5 (.alt 6 (.alt 7 (.alt 9 (.alt 10 .fin .none) .none) .none) .none) .none) .none) .none) .none)) (.alt 2 (.alt 0 (.alt 4 (.alt 5 (.alt 6 (.alt 7 (.alt 8 (.alt 9 (.alt 10 .fin .none) .none) .none) .none) .none) .none) (.alt 8 (.alt 4 (.alt 5 (.alt 6 (.alt 7 (.alt 9 (.alt 10 .fin .none) .none) .none) .none) .none) .none) .none)) (.alt 8 (.alt 0 (.alt 4 (.alt 5 (.alt 6 (.alt 7 (.alt 9 (.alt 10 .fin .none) .none) .none) .none) .none) .none) .none) .none)) (.alt 8 (.alt 0 (.alt 2 (.alt 4 (.alt 5 (.alt 6 (.alt 7 (.alt 9 (.alt 10 .fin .none) .none) .none) .none) .none) .none) .none) (.alt 2 (.alt 0 (.alt 4 (.alt 5 (.alt 6 (.alt 7 (.alt 9 (.alt 10 .fin .none) .none) .none) .none) .none) .none) .none) .none)) .none))) (.alt 8 (.alt 0 (.alt 2 (.alt 3 (.alt 4 (.alt 5 (.alt 6 (.alt 7 (.alt 9 (.alt 10 .fin .none) .none) .none) .none) .none) .none) .none) (.alt 3 (.alt 2 (.alt 4 (.alt 5 (.alt 6 (.alt 7 (.alt 9 (.alt 10 .fin .none) .none) .none) .none) .none) .none) .none) .none)) (.alt 2 (.alt 0 (.alt 3 (.alt 4 (.alt 5 (.alt 6 (.alt 7 (.alt 9 (.alt 10 .fin .none) .none) .none) .none) .none) .none) .none) (.alt 3 (.alt 0 (.alt 4 (.alt 5 (.alt 6 (.alt 7 (.alt 9 (.alt 10 .fin .none) .none) .none) .none) .none) .none) .none) .none)) (.alt 3 (.alt 0 (.alt 2 (.alt 4 (.alt 5 (.alt 6 (.alt 7 (.alt 9 (.alt 10 .fin .none) .none) .none) .none) .none) .none) .none) (.alt 2 (.alt 0 (.alt 4 (.alt 5 (.alt 6 (.alt 7 (.alt 9 (.alt 10 .fin .none) .none) .none) .none) .none) .none) .none) .none)) .none))) .none)))) (.alt 3 (.alt 0 (.alt 1 (.alt 2 (.alt 4 (.alt 5 (.alt 6 (.alt 7 (.alt 8 (.alt 9 (.alt 10 .fin .none) .none) .none) .none) .none) .none) (.alt 8 (.alt 4 (.alt 5 (.alt 6 (.alt 7 (.alt 9 (.alt 10 .fin .none) .none) .none) .none) .none) .none) .none)) (.alt 8 (.alt 2 (.alt 4 (.alt 5 (.alt 6 (.alt 7 (.alt 9 (.alt 10 .fin .none) .none) .none) .none) .none) .none) .none) .none)) (.alt 8 (.alt 1 (.alt 2 (.alt 4 (.alt 5 (.alt 6 (.alt 7 (.alt 9 (.alt 10 .fin .none) .none) .none) .none) .none) .none) .none) .none) .none)) (.alt 1 (.alt 0 (.alt 2 (.alt 4 (.alt 5 (.alt 6 (.alt 7 (.alt 8 (.alt 9 (.alt 10 .fin .none) .none) .none) .none) .none) .none) (.alt 8 (.alt 4 (.alt 5 (.alt 6 (.alt 7 (.alt 9 (.alt 10 .fin .none) .none) .none) .none) .none) .none) .none)) (.alt 8 (.alt 2 (.alt 4 (.alt 5 (.alt 6 (.alt 7 (.alt 9 (.alt 10 .fin .none) .none) .none) .none) .none) .none) .none) .none)) (.alt 2 (.alt 0 (.alt 4 (.alt 5 (.alt 6 (.alt 7 (.alt 8 (.alt 9 (.alt 10 .fin .none) .none) .none) .none) .none) .none) (.alt 8 (.alt 4 (.alt 5 (.alt 6 (.alt 7 (.alt 9 (.alt 10 .fin .none) .none) .none) .none) .none) .none) .none)) (.alt 8 (.alt 0 (.alt 4 (.alt 5 (.alt 6 (.alt 7 (.alt 9 (.alt 10 .fin .none) .none) .none) .none) .none) .none) .none) .none)) (.alt 8 (.alt 0 (.alt 2 (.alt 4 (.alt 5 (.alt 6 (.alt 7 (.alt 9 (.alt 10 .fin .none) .none) .none) .none) .none) .none) .none) (.alt 2 (.alt 0 (.alt 4 (.alt 5 (.alt 6 (.alt 7 (.alt 9 (.alt 10 .fin .none) .none) .none) .none) .none) .none) .none) .none)) .none))) (.alt 8 (.alt 0 (.alt 1 (.alt 2 (.alt 4 (.alt 5 (.alt 6 (.alt 7 (.alt 9 (.alt 10 .fin .none) .none) .none) .none) .none) .none) .none) .none) (.alt 1 (.alt 0 (.alt 2 (.alt 4 (.alt 5 (.alt 6 (.alt 7 (.alt 9 (.alt 10 .fin .none) .none) .none) .none) .none) .none) .none) (.alt 2 (.alt 0 (.alt 4 (.alt 5 (.alt 6 (.alt 7 (.alt 9 (.alt 10 .fin .none) .none) .none) .none) .none) .none) .none) .none)) .none)) .none))) (.alt 8 (.alt 0 (.alt 1 (.alt 2 (.alt 3 (.alt 4 (.alt 5 (.alt 6 (.alt 7 (.alt 9 (.alt 10 .fin .none) .none) .none) .none) .none) .none) .none) (.alt 3 (.alt 2 (.alt 4 (.alt 5 (.alt 6 (.alt 7 (.alt 9 (.alt 10 .fin .none) .none) .none) .none) .none) .none) .none) .none)) (.alt 3 (.alt 1 (.alt 2 (.alt 4 (.alt 5 (.alt 6 (.alt 7 (.alt 9 (.alt 10 .fin .none) .none) .none) .none) .none) .none) .none) .none) .none)) (.alt 1 (.alt 0 (.alt 2 (.alt 3 (.alt 4 (.alt 5 (.alt 6 (.alt 7 (.alt 9 (.alt 10 .fin .none) .none) .none) .none) .none) .none) .none) (.alt 3 (.alt 2 (.alt 4 (.alt 5 (.alt 6 (.alt 7 (.alt 9 (.alt 10 .fin .none) .none) .none) .none) .none) .none) .none) .none)) (.alt 2 (.alt 0 (.alt 3 (.alt 4 (.alt 5 (.alt 6 (.alt 7 (.alt 9 (.alt 10 .fin .none) .none) .none) .none) .none) .none) .none) (.alt 3 (.alt 0 (.alt 4 (.alt 5 (.alt 6 (.alt 7 (.alt 9 (.alt 10 .fin .none) .none) .none) .none) .none) .none) .none) .none)) (.alt 3 (.alt 0 (.alt 2 (.alt 4 (.alt 5 (.alt 6 (.alt 7 (.alt 9 (.alt 10 .fin .none) .none) .none) .none) .none) .none) .none) (.alt 2 (.alt 0 (.alt 4 (.alt 5 (.alt 6 (.alt 7 (.alt 9 (.alt 10 .fin .none) .none) .none) .none) .none) .none) .none) .none)) .none))) (.alt 3 (.alt 0 (.alt 1 (.alt 2 (.alt 4 (.alt 5 (.alt 6 (.alt 7 (.alt 9 (.alt 10 .fin .none) .none) .none) .none) .none) .none) .none) .none) (.alt 1 (.alt 0 (.alt 2 (.alt 4 (.alt 5 (.alt 6 (.alt 7 (.alt 9 (.alt 10 .fin .none) .none) .none) .none) .none) .none) .none) (.alt 2 (.alt 0 (.alt 4 (.alt 5 (.alt 6 (.alt 7 (.alt 9 (.alt 10 .fin .none) .none) .none) .none) .none) .none) .none) .none)) .none)) .none))) .none))))),(9,.cut (.alt 0 (.alt 1 (.alt 2 (.alt 3 (.alt 4 (.alt 5 (.alt 6 (.alt 7 (.alt 8 (.alt 9 .fin .none) .none) .none) .none) .none) .none) (.alt 7 (.alt 3 (.alt 4 (.alt 5 (.alt 6 (.alt 8 (.alt 9 .fin .none) .none) .none) .none) .none) .none) .none)) (.alt 7 (.alt 2 (.alt 3 (.alt 4 (.alt 5 (.alt 6 (.alt 8 (.alt 9 .fin .none) .none) .none) .none) .none) .none) .none) .none)) (.alt 2 (.alt 1 (.alt 3 (.alt 4 (.alt 5 (.alt 6 (.alt 7 (.alt 8 (.alt 9 .fin .none) .none) .none) .none) .none) .none) (.alt 7 (.alt 3 (.alt 4 (.alt 5 (.alt 6 (.alt 8 (.alt 9 .fin .none) .none) .none) .none) .none) .none) .none)) (.alt 7 (.alt 1 (.alt 3 (.alt 4 (.alt 5 (.alt 6 (.alt 8 (.alt 9 .fin .none) .none) .none) .none) .none) .none) .none) .none)) (.alt 7 (.alt 1 (.alt 2 (.alt 3 (.alt 4 (.alt 5 (.alt 6 (.alt 8 (.alt 9 .fin .none) .none) .none) .none) .none) .none) .none) (.alt 2 (.alt 1 (.alt 3 (.alt 4 (.alt 5 (.alt 6 (.alt 8 (.alt 9 .fin .none) .none) .none) .none) .none) .none) .none) .none)) .none))) (.alt 1 (.alt 0 (.alt 2 (.alt 3 (.alt 4 (.alt 5 (.alt 6 (.alt 7 (.alt 8 (.alt 9 .fin .none) .none) .none) .none) .none) .none) (.alt 7 (.alt 3 (.alt 4 (.alt 5 (.alt 6 (.alt 8 (.alt 9 .fin .none) .none) .none) .none) .none) .none) .none)) (.alt 7 (.alt 2 (.alt 3 (.alt 4 (.alt 5 (.alt 6 (.alt 8 (.alt 9 .fin .none) .none) .none) .none) .none) .none) .none) .none)) (.alt 2 (.alt 0 (.alt 3 (.alt 4 (.alt 5 (.alt 6 (.alt 7 (.alt 8 (.alt 9 .fin .none) .none) .none) .none) .none) .none) (.alt 7 (.alt 3 (.alt 4 (.alt 5 (.alt 6 (.alt 8 (.alt 9 .fin .none) .none) .none) .none) .none) .none) .none)) (.alt 7 (.alt 0 (.alt 3 (.alt 4 (.alt 5 (.alt 6 (.alt 8 (.alt 9 .fin .none) .none) .none) .none) .none) .none) .none) .none)) (.alt 7 (.alt 0 (.alt 2 (.alt 3 (.alt 4 (.alt 5 (.alt 6 (.alt 8 (.alt 9 .fin .none) .none) .none) .none) .none) .none) .none) (.alt 2 (.alt 0 (.alt 3 (.alt 4 (.alt 5 (.alt 6 (.alt 8 (.alt 9 .fin .none) .none) .none) .none) .none) .none) .none) .none)) .none))) (.alt 2 (.alt 0 (.alt 1 (.alt 3 (.alt 4 (.alt 5 (.alt 6 (.alt 7 (.alt 8 (.alt 9 .fin .none) .none) .none) .none) .none) .none) (.alt 7 (.alt 3 (.alt 4 (.alt 5 (.alt 6 (.alt 8 (.alt 9 .fin .none) .none) .none) .none) .none) .none) .none)) (.alt 7 (.alt 1 (.alt 3 (.alt 4 (.alt 5 (.alt 6 (.alt 8 (.alt 9 .fin .none) .none) .none) .none) .none) .none) .none) .none)) (.alt 1 (.alt 0 (.alt 3 (.alt 4 (.alt 5 (.alt 6 (.alt 7 (.alt 8 (.alt 9 .fin .none) .none) .none) .none) .none) .none) (.alt 7 (.alt 3 (.alt 4 (.alt 5 (.alt 6 (.alt 8 (.alt 9 .fin .none) .none) .none) .none) .none) .none) .none)) (.alt 7 (.alt 0 (.alt 3 (.alt 4 (.alt 5 (.alt 6 (.alt 8 (.alt 9 .fin .none) .none) .none) .none) .none) .none) .none) .none)) (.alt 7 (.alt 0 (.alt 1 (.alt 3 (.alt 4 (.alt 5 (.alt 6 (.alt 8 (.alt 9 .fin .none) .none) .none) .none) .none) .none) .none) (.alt 1 (.alt 0 (.alt 3 (.alt 4 (.alt 5 (.alt 6 (.alt 8 (.alt 9 .fin .none) .none) .none) .none) .none) .none) .none) .none)) .none))) (.alt 7 (.alt 0 (.alt 1 (.alt 2 (.alt 3 (.alt 4 (.alt 5 (.alt 6 (.alt 8 (.alt 9 .fin .none) .none) .none) .none) .none) .none) .none) (.alt 2 (.alt 1 (.alt 3 (.alt 4 (.alt 5 (.alt 6 (.alt 8 (.alt 9 .fin .none) .none) .none) .none) .none) .none) .none) .none)) (.alt 1 (.alt 0 (.alt 2 (.alt 3 (.alt 4 (.alt 5 (.alt 6 (.alt 8 (.alt 9 .fin .none) .none) .none) .none) .none) .none) .none) (.alt 2 (.alt 0 (.alt 3 (.alt 4 (.alt 5 (.alt 6 (.alt 8 (.alt 9 .fin .none) .none) .none) .none) .none) .none) .none) .none)) (.alt 2 (.alt 0 (.alt 1 (.alt 3 (.alt 4 (.alt 5 (.alt 6 (.alt 8 (.alt 9 .fin .none) .none) .none) .none) .none) .none) .none) (.alt 1 (.alt 0 (.alt 3 (.alt 4 (.alt 5 (.alt 6 (.alt 8 (.alt 9 .fin .none) .none) .none) .none) .none) .none) .none) .none)) .none))) .none)))))]
theorem Is.many {d:Nat} {n:Node} {L:List KV} (h:Is d n L) (hd:d<=16) (H:List (List Blk)):aB X H 24 [pNode n] (.d (.int .i64 L.length)) []:=by
 have:=sO d n hd h.ok H
 rw [h.ks,aAj] at this
 exact this
theorem Is.flat {d:Nat} {n:Node} {L:List KV} (h:Is d n L) (hd:d<=16) (hl:L.length<=1) (H:List (List Blk)):aB X H 25 [pNode n] (.d (.int .i64 1)) []:=by
 have:=d_depth d n hd h.ok H
 obtain ⟨e,he,_,b2,b3⟩:=tG d n 0 h.ok (lM h.ch)
 rw [h.li] at b2
 have e0:e=0:=by
  rcases Nat.eq_zero_or_pos n.keys.length with hz | hz
  . exact (b3 hz).1
  . have b2:=b2 hz
    cases e with
    | zero=>rfl
    | succ e=>
      have:2 ^ 2<=2 ^ (e+1+1):=Nat.pow_le_pow_right (by decide) (by omega)
      omega
 subst e0
 unfold sP at this
 rw [if_pos h.ch,he] at this
 exact this
theorem iM (H:List (List Blk)):aB X H 12 [] (.d (.bool true)) []:=by
 have I0:Is 1 (.mk [] [] []) []:=⟨ok0,chk0,rfl⟩
 have hv:∀ z:Int,∀ v ∈ [(⟨z,false,[]⟩:Ver)],v.val.length<=1000000:=fun z v hv=>by rw [aA0.1 hv];exact aBp _
 obtain ⟨da,a,ha,Ia,P1⟩:=tY I0 (by decide) (k:=[98]) (l:=[vA]) (by decide) (by decide) (by decide) (by decide) (hv 1)
 obtain ⟨db,b,hb,Ib,P2⟩:=tY Ia (by omega) (k:=[97]) (l:=[vB]) (by decide) (by decide) (by decide) (by decide) (hv 2)
 have lb:bQ [97] [vB] (bQ [98] [vA] []) = [([97],[vB]),([98],[vA])]:=by
  show (if cm [98] [97] < 0 then _ else if cm [98] [97]=0 then _ else _)=_
  rw [if_neg (by decide),if_neg (by decide)]
 rw [lb] at Ib
 have f97:List.find? (eqP [97]) [(([97]:List UInt8),[vB]),([98],[vA])]=some ([97],[vB]):=by kernel_rfl
 have f98:List.find? (eqP [98]) [(([97]:List UInt8),[vB]),([98],[vA])]=some ([98],[vA]):=by kernel_rfl
 have g1:List.find? (geP [97,97]) [(([97]:List UInt8),[vB]),([98],[vA])]=some ([98],[vA]):=by kernel_rfl
 have g2:List.find? (geP [99]) [(([97]:List UInt8),[vB]),([98],[vA])]=none:=by kernel_rfl
 obtain ⟨dd,c,hd,Ic,D1⟩:=tZ Ib (by omega) (k:=[97]) (by decide) f97
 have lc:cS [97] [([97],[vB]),([98],[vA])] = [([98],[vA])]:=by kernel_rfl
 rw [lc] at Ic
 have K:=fun H=>yE db b (by omega) Ib.ok H
 rw [Ib.ks] at K
 have F:=fun H=>mO db b [98] (by omega) Ib.ok H
 rw [Ib.fi,f98] at F
 have F:∀ H,aB X H 15 [pNode b,.d (aJ [98])] (.tuple [.d (encVs [vA]),.d (.bool true)]) []:=F
 have N1:=fun H=>yC db b [97,97] (by omega) Ib.ok H
 rw [tF Ib.ok,Ib.pr,g1] at N1
 have N1:∀ H,aB X H 17 [pNode b,.d (aJ [97,97])] (.tuple [.d (aJ [98]),.d (.bool true)]) []:=N1
 have N2:=fun H=>yC db b [99] (by omega) Ib.ok H
 rw [tF Ib.ok,Ib.pr,g2] at N2
 have N2:∀ H,aB X H 17 [pNode b,.d (aJ [99])] (.tuple [.d (aJ []),.d (.bool false)]) []:=N2
 have D2:=fun H=>vT Ic (by omega) (k:=[97]) (by decide) H
 have q3:eP db b (List.replicate 17 0) [vA]=false:=by unfold eP;rw [show decide (((List.replicate 17 (0:UInt8)).length:Int)<=16)=false from rfl];simp
 have q4:eP db b [99] []=false:=by unfold eP;simp
 have P3:=fun H=>qN Ib.ok (by omega) (by decide) q3 H
 have P4:=fun H=>qN Ib.ok (by omega) (by decide) q4 H
 have M:=fun H=>Ic.many (by omega) H
 have Dp:=fun H=>Ic.flat (by omega) (by decide) H
 have Ck:=fun H=>dB dd c (by omega) Ic.ok H
 rw [Ic.ch] at Ck
 refine callEq_of_bodyF aT false true (mo:=mo12) (by kernel_rfl) Try.func12 rfl ?_
 conv=>whnf
 refine ⟨_,_,(rL 1 _).md _ _,True.intro,?_⟩
 conv=>whnf
 refine ⟨_,_,(P1 _).md _ _,True.intro,?_⟩
 conv=>whnf
 refine cutV_of [.any,.any,.d (.int .i64 0),.ptr 0 0 0,.d (.int .i64 0),.any,.any,.any,.any,.any,.any,.any,.any,.any,.any,.any,.any,.any,.any,.any,.any,.any,.any,.any,.any,.any,.any,.any,.any,.any,.any,.any,.any,.any,.any,.any,.any,.any,.any,.any,.any,.any,.any,.any,.any,.any,.any,.any,.any,.any,.any,.any,.any,.any,.any,.any,.any,.any,.any,.any,.any,.any,.any,.any,.any,.any,.any,.any,.any,.any,.any,.any,.any,.any,.any,.any,.any,.any,.any,.any,.any,.any,.any,.any,.any,.any,.any,.any,.any,.any,.any,.any,.any,.any,.any,.any,.any,.any,.any,.any,.any,.any,.any,.any,.any,.any,.any,.any,.any,.any,.any,.any,.any,.any,.any,.any,.any,.any,.any,.any,.any,.any,.any,.any,.any,.any,.any,.any,.any,.any,.any,.any,.any,.any,.any,.any,.any,.any,.any,.any,.any,.any,.any,.any,.any,.any,.any,.any,.any,.any,.any,.any,.any,.any,.any,.any,.any,.any,.any,.any,.any,.any,.any,.any,.any,.any,.any,.any,.any,.any,.any,.any,.any] [bNode b] ?_ ?_
 . conv=>whnf
   repeat' (first
    | (refine ⟨_,_,(rL 2 _).md _ _,True.intro,?_⟩;conv=>whnf)
    | (refine ⟨_,_,(P2 _).md _ _,True.intro,?_⟩;conv=>whnf)
    | (refine And.intro ?_ ?_ <;> (conv=>whnf))
    | fail)
   all_goals first
    | (refine ⟨[1],And.intro rfl (And.intro ?_ ?_)⟩
       all_goals (repeat' (first | exact True.intro | exact rfl | refine And.intro ?_ ?_))
       done)
    | (refine ⟨[0],And.intro rfl (And.intro ?_ ?_)⟩
       all_goals (repeat' (first | exact True.intro | exact rfl | refine And.intro ?_ ?_))
       done)
 . conv=>whnf
   repeat' (first
    | (refine ⟨_,_,(K _).md _ _,True.intro,?_⟩;conv=>whnf)
    | (refine ⟨_,_,(F _).md _ _,True.intro,?_⟩;conv=>whnf)
    | (refine ⟨_,_,(N1 _).md _ _,True.intro,?_⟩;conv=>whnf)
    | (refine ⟨_,_,(N2 _).md _ _,True.intro,?_⟩;conv=>whnf)
    | (refine ⟨_,_,(D1 _).md _ _,True.intro,?_⟩;conv=>whnf)
    | (refine ⟨_,_,(D2 _).md _ _,True.intro,?_⟩;conv=>whnf)
    | fail)
   refine cutV_of [.any,.any,.d (.int .i64 0),.ptr 0 0 0,.d (.int .i64 0),.d (encKs [[97],[98]]),.d (encVs [vA]),.d (.bool true),.d (aJ [98]),.d (.bool true),.any,.d (.bool false),.ptr 0 1 0,.d (.int .i64 0),.any,.d (.int .i64 61),.any,.d (.int .i64 1),.any,.any,.any,.any,.any,.any,.any,.any,.any,.any,.any,.any,.any,.any,.any,.any,.any,.any,.any,.any,.any,.any,.any,.any,.any,.any,.any,.any,.any,.any,.any,.any,.any,.any,.any,.any,.any,.any,.any,.any,.any,.any,.any,.any,.any,.any,.any,.any,.any,.any,.any,.any,.any,.any,.any,.any,.any,.any,.any,.any,.any,.any,.any,.any,.any,.any,.any,.any,.any,.any,.any,.any,.any,.any,.any,.any,.any,.any,.any,.any,.any,.any,.any,.any,.any,.any,.any,.any,.any,.any,.any,.any,.any,.any,.any,.any,.any,.any,.any,.any,.any,.any,.any,.any,.any,.any,.any,.any,.any,.any,.any,.any,.any,.any,.any,.any,.any,.any,.any,.any,.any,.any,.any,.any,.any,.any,.any,.any,.any,.any,.any,.any,.any,.any,.any,.any,.any,.any,.any,.any,.any,.any,.any,.any,.any,.any,.any,.any,.any,.any,.any,.any,.any,.any,.any] [bNode b,bNode c] ?_ ?_
   . conv=>whnf
     repeat' (first
      | (refine ⟨_,_,(rL 1 _).md _ _,True.intro,?_⟩;conv=>whnf)
      | (refine ⟨_,_,(P3 _).md _ _,True.intro,?_⟩;conv=>whnf)
      | (refine And.intro ?_ ?_ <;> (conv=>whnf))
      | exact Int.NonNeg.mk _
      | (refine ⟨[0,1],And.intro rfl (And.intro ?_ ?_)⟩
         all_goals (repeat' (first | exact True.intro | exact rfl | refine And.intro ?_ ?_))
         done)
      | fail)
   . conv=>whnf
     repeat' (first
      | (exfalso;revert h;decide)
      | exact Bool.noConfusion (show true=false from (beq_self_eq_true _).symm.trans h)
      | (refine And.intro (fun h=>?_) (fun h=>?_) <;> (conv=>whnf))
      | (refine ⟨_,_,(P4 _).md _ _,True.intro,?_⟩;conv=>whnf)
      | (refine ⟨_,_,(M _).md _ _,True.intro,?_⟩;conv=>whnf)
      | (refine ⟨_,_,(Dp _).md _ _,True.intro,?_⟩;conv=>whnf)
      | (refine ⟨_,_,(Ck _).md _ _,True.intro,?_⟩;conv=>whnf)
      | (refine ⟨Int.NonNeg.mk _,[aJ [97]],rfl,rfl,?_⟩;conv=>whnf)
      | (refine ⟨Int.NonNeg.mk _,[aJ [98]],rfl,rfl,?_⟩;conv=>whnf)
      | (refine ⟨Int.NonNeg.mk _,cVer vA,rfl,rfl,?_⟩;conv=>whnf)
      | (refine ⟨[],rfl,?_⟩
         (repeat' (first | exact True.intro | exact rfl | refine And.intro ?_ ?_))
         done)
      | (refine ⟨[97],rfl,?_⟩;conv=>whnf)
      | (refine ⟨[98],rfl,?_⟩;conv=>whnf)
      | fail)
theorem vU {k:List UInt8} {l:List Ver}:∀ {L:List KV},L.find? (eqP k)=none->cS k (bQ k l L)=L/\(bQ k l L).length=L.length+1/\(bQ k l L).find? (eqP k)=some (k,l)
 | [],_=>by
   have e:eqP k (k,l)=true:=by unfold eqP;rw [cE];rfl
   refine ⟨?_,rfl,?_⟩
   . show cS k [(k,l)] = []
     rw [fW,if_pos (cE k)];rfl
   . show List.find? (eqP k) [(k,l)]=_
     rw [aA9,e]
 | p::ps,h=>by
   have e:eqP k (k,l)=true:=by unfold eqP;rw [cE];rfl
   have hp:eqP k p=false:=by
    cases hq:eqP k p with
    | false=>rfl
    | true=>rw [aA9,hq] at h;cases h
   have hps:ps.find? (eqP k)=none:=by rw [aA9,hp] at h;exact h
   have hne:cm p.1 k≠0:=of_decide_eq_false hp
   obtain ⟨i1,i2,i3⟩:=vU (l:=l) hps
   show cS k (if cm p.1 k < 0 then p::bQ k l ps else if cm p.1 k=0 then (k,l)::ps else (k,l)::p::ps)=p::ps/\(if cm p.1 k < 0 then p::bQ k l ps else if cm p.1 k=0 then (k,l)::ps else (k,l)::p::ps).length=ps.length+1+1/\(if cm p.1 k < 0 then p::bQ k l ps else if cm p.1 k=0 then (k,l)::ps else (k,l)::p::ps).find? (eqP k)=_
   by_cases hl:cm p.1 k < 0
   . rw [if_pos hl]
     refine ⟨by rw [fW,if_neg hne,i1],by rw [aAp,i2],by rw [aA9,hp];exact i3⟩
   . rw [if_neg hl,if_neg hne]
     refine ⟨?_,rfl,by rw [aA9,e]⟩
     rw [fW,if_pos (cE k),fW,if_neg hne]
     congr 1
     refine iE fun q hq hz=>?_
     have:=List.find?_eq_none.1 hps q hq
     unfold eqP at this
     rw [hz] at this
     exact this rfl
theorem uA {k:List UInt8} {l:List Ver}:∀ L:List KV,(bQ k l L).find? (eqP k)=some (k,l)
 | []=>by
   have e:eqP k (k,l)=true:=by unfold eqP;rw [cE];rfl
   show List.find? (eqP k) [(k,l)]=_
   rw [aA9,e]
 | p::ps=>by
   have e:eqP k (k,l)=true:=by unfold eqP;rw [cE];rfl
   show (if cm p.1 k < 0 then p::bQ k l ps else if cm p.1 k=0 then (k,l)::ps else (k,l)::p::ps).find? (eqP k)=_
   by_cases hl:cm p.1 k < 0
   . rw [if_pos hl,aA9,tC hl];exact uA ps
   . rw [if_neg hl]
     split <;> rw [aA9,e]
theorem Is.lp {d:Nat} {n:Node} {L:List KV} (h:Is d n L):cI d n=L:=by rw [uO h.ok,h.pr]
theorem t_back (n:Node) (key:List UInt8) (z:Int) (H:List (List Blk)):aB X H 10 [pNode n,.d (aJ key),.d (.int .i64 z)] (.d (.bool true)) []:=by
 have hkl:(key.map fun x:UInt8=>[DV.int .u8 x.toNat]).length=key.length:=by rw [aAj]
 have hone:=fun H=>rL z H
 cases hs:dF 5 n with
 | false=>
   have hsm:∀ H,aB X H _ _ _ []:=fun H=>hs ▸ sV n H
   refine callEq_of_body aT rfl Try.func10 rfl ?_
   conv=>whnf
   repeat' (first
    | (exfalso;revert h_;decide)
    | (refine ⟨_,_,iM _,True.intro,?_⟩;conv=>whnf)
    | (refine ⟨_,_,hsm _,True.intro,?_⟩;conv=>whnf)
    | (refine And.intro (fun h_=>?_) (fun h_=>?_) <;> (conv=>whnf))
    | (refine ⟨[0],rfl,?_,True.intro⟩
       (repeat' (first | exact True.intro | exact rfl | refine And.intro ?_ ?_))
       done)
    | (refine ⟨[],rfl,?_,True.intro⟩
       (repeat' (first | exact True.intro | exact rfl | refine And.intro ?_ ?_))
       done)
    | fail)
 | true=>
 have hsm:∀ H,aB X H _ _ _ []:=fun H=>hs ▸ sV n H
 have hn:=mP 5 n hs
 rcases aBn 100 key.length with hbig | hbig
 . have hb:decide (((key.map fun x:UInt8=>[DV.int .u8 x.toNat]).length:Int) > 100)=true:=by rw [hkl];exact decide_eq_true (by omega)
   refine callEq_of_body aT rfl Try.func10 rfl ?_
   conv=>whnf
   repeat' (first
    | exact absurd (hb.symm.trans h_) (by decide)
    | (exfalso;revert h_;decide)
    | (refine ⟨_,_,iM _,True.intro,?_⟩;conv=>whnf)
    | (refine ⟨_,_,hsm _,True.intro,?_⟩;conv=>whnf)
    | (refine And.intro (fun h_=>?_) (fun h_=>?_) <;> (conv=>whnf))
    | (refine ⟨[0],rfl,?_,True.intro⟩
       (repeat' (first | exact True.intro | exact rfl | refine And.intro ?_ ?_))
       done)
    | (refine ⟨[],rfl,?_,True.intro⟩
       (repeat' (first | exact True.intro | exact rfl | refine And.intro ?_ ?_))
       done)
    | fail)
 have hb:decide (((key.map fun x:UInt8=>[DV.int .u8 x.toNat]).length:Int) > 100)=false:=by rw [hkl];exact decide_eq_false (by omega)
 cases hc:aY 5 n with
 | false=>
   have hck:∀ H,aB X H _ _ _ []:=fun H=>hc ▸ dB 5 n (by decide) hn H
   refine callEq_of_body aT rfl Try.func10 rfl ?_
   conv=>whnf
   repeat' (first
    | exact absurd (hb.symm.trans h_) (by decide)
    | (exfalso;revert h_;decide)
    | (refine ⟨_,_,iM _,True.intro,?_⟩;conv=>whnf)
    | (refine ⟨_,_,hsm _,True.intro,?_⟩;conv=>whnf)
    | (refine ⟨_,_,hck _,True.intro,?_⟩;conv=>whnf)
    | (refine And.intro (fun h_=>?_) (fun h_=>?_) <;> (conv=>whnf))
    | (refine ⟨[0],rfl,?_,True.intro⟩
       (repeat' (first | exact True.intro | exact rfl | refine And.intro ?_ ?_))
       done)
    | (refine ⟨[],rfl,?_,True.intro⟩
       (repeat' (first | exact True.intro | exact rfl | refine And.intro ?_ ?_))
       done)
    | fail)
 | true=>
 have hck:∀ H,aB X H _ _ _ []:=fun H=>hc ▸ dB 5 n (by decide) hn H
 have hI:Is 5 n (aD 5 n):=⟨hn,hc,rfl⟩
 have hF:=fun H=>mO 5 n key (by decide) hn H
 rw [hI.fi] at hF
 generalize aD 5 n=L at hI hF
 cases hp:eP 5 n key [⟨z,false,[]⟩] with
 | false=>
   have hP:=fun H=>qN (k:=key) (l:=[⟨z,false,[]⟩]) hn (by decide) (by show (1:Nat) < 1000000;decide) hp H
   obtain ⟨R,w,hD⟩:∃ (R:Node) (w:Int),∀ H,aB X H 29 [pNode n,.d (aJ key)] (.tuple [pNode R,.d (.int .i64 w)]) []:=by
    cases hf:L.find? (eqP key) with
    | none=>exact ⟨n,61,fun H=>vT hI (by decide) hf H⟩
    | some p=>obtain ⟨_,R,_,_,h⟩:=tZ hI (by decide) (by omega) hf;exact ⟨R,0,h⟩
   refine callEq_of_body aT rfl Try.func10 rfl ?_
   conv=>whnf
   repeat' (first
    | exact absurd (hb.symm.trans h_) (by decide)
    | (exfalso;revert h_;decide)
    | (refine ⟨_,_,iM _,True.intro,?_⟩;conv=>whnf)
    | (refine ⟨_,_,hsm _,True.intro,?_⟩;conv=>whnf)
    | (refine ⟨_,_,hck _,True.intro,?_⟩;conv=>whnf)
    | (refine ⟨_,_,hF _,True.intro,?_⟩;conv=>whnf)
    | (refine ⟨_,_,hone _,True.intro,?_⟩;conv=>whnf)
    | (refine ⟨_,_,hP _,True.intro,?_⟩;conv=>whnf)
    | (refine ⟨_,_,hD _,True.intro,?_⟩;conv=>whnf)
    | (refine And.intro (fun h_=>?_) (fun h_=>?_) <;> (conv=>whnf))
    | (refine ⟨[0],rfl,?_,True.intro⟩
       (repeat' (first | exact True.intro | exact rfl | refine And.intro ?_ ?_))
       done)
    | (refine ⟨[],rfl,?_,True.intro⟩
       (repeat' (first | exact True.intro | exact rfl | refine And.intro ?_ ?_))
       done)
    | fail)
 | true=>
 have hp2:=hp
 simp only [eP,aBu,decide_eq_true_eq,Bool.not_eq_true'] at hp2
 obtain ⟨_,p1,_,p2⟩:=hp2
 obtain ⟨dm,m,hdm,Im,hP⟩:=tY hI (by decide) (k:=key) (l:=[⟨z,false,[]⟩]) (by omega) (by show (1:Nat)≠0;decide) (by show (1:Nat) < 100000;decide) p2 (fun v hv=>by rw [aA0.1 hv];exact aBp _)
 obtain ⟨dO,o,hdo,Io,hD⟩:=tZ Im (by omega) (k:=key) (by omega) (uA L)
 cases hf:L.find? (eqP key) with
 | some p=>
   rw [hf] at hF
   have hF:∀ H,aB X H 15 [pNode n,.d (aJ key)] (.tuple [.d (encVs p.2),.d (.bool true)]) []:=hF
   refine callEq_of_body aT rfl Try.func10 rfl ?_
   conv=>whnf
   repeat' (first
    | exact absurd (hb.symm.trans h_) (by decide)
    | (exfalso;revert h_;decide)
    | (refine ⟨_,_,iM _,True.intro,?_⟩;conv=>whnf)
    | (refine ⟨_,_,hsm _,True.intro,?_⟩;conv=>whnf)
    | (refine ⟨_,_,hck _,True.intro,?_⟩;conv=>whnf)
    | (refine ⟨_,_,hF _,True.intro,?_⟩;conv=>whnf)
    | (refine ⟨_,_,hone _,True.intro,?_⟩;conv=>whnf)
    | (refine ⟨_,_,hP _,True.intro,?_⟩;conv=>whnf)
    | (refine ⟨_,_,hD _,True.intro,?_⟩;conv=>whnf)
    | (refine And.intro (fun h_=>?_) (fun h_=>?_) <;> (conv=>whnf))
    | (refine ⟨[0],rfl,?_,True.intro⟩
       (repeat' (first | exact True.intro | exact rfl | refine And.intro ?_ ?_))
       done)
    | (refine ⟨[],rfl,?_,True.intro⟩
       (repeat' (first | exact True.intro | exact rfl | refine And.intro ?_ ?_))
       done)
    | fail)
 | none=>
   rw [hf] at hF
   have hF:∀ H,aB X H 15 [pNode n,.d (aJ key)] (.tuple [.d (encVs []),.d (.bool false)]) []:=hF
   obtain ⟨i1,i2,_⟩:=vU (l:=[⟨z,false,[]⟩]) hf
   rw [i1] at Io
   have hlen:=hI.len (by decide)
   have hckm:∀ H,aB X H _ _ _ []:=fun H=>Im.ch ▸ dB dm m (by omega) Im.ok H
   have hcko:∀ H,aB X H _ _ _ []:=fun H=>Io.ch ▸ dB dO o (by omega) Io.ok H
   have hMm:=fun H=>sO dm m (by omega) Im.ok H
   have hMn:=fun H=>sO 5 n (by decide) hn H
   rw [Im.ks,aAj,i2] at hMm
   rw [hI.ks,aAj] at hMn
   have hLo:=fun H=>pJ dO o (by omega) Io.ok H
   have hLn:=fun H=>pJ 5 n (by decide) hn H
   rw [Io.lp] at hLo
   rw [hI.lp] at hLn
   have hSa:∀ H,aB X H _ _ _ []:=fun H=>uN L ▸ d_same L L hlen (fun p hp=>(hI.kv p hp).2.1) H
   have w1:IntKind.i64.wrap ((L.length:Int)+1)=((L.length+1:Nat):Int):=by rw [aL (by omega) (by omega)];omega
   refine callEq_of_body aT rfl Try.func10 rfl ?_
   conv=>whnf
   repeat' (first
    | exact absurd ((beq_self_eq_true _).symm.trans h_) (by decide)
    | exact absurd (hb.symm.trans h_) (by decide)
    | (exfalso;revert h_;decide)
    | (refine ⟨_,_,iM _,True.intro,?_⟩;conv=>whnf)
    | (refine ⟨_,_,hsm _,True.intro,?_⟩;conv=>whnf)
    | (refine ⟨_,_,hck _,True.intro,?_⟩;conv=>whnf)
    | (refine ⟨_,_,hF _,True.intro,?_⟩;conv=>whnf)
    | (refine ⟨_,_,hone _,True.intro,?_⟩;conv=>whnf)
    | (refine ⟨_,_,hP _,True.intro,?_⟩;conv=>whnf)
    | (refine ⟨_,_,hD _,True.intro,?_⟩;conv=>whnf)
    | (refine ⟨_,_,hckm _,True.intro,?_⟩;conv=>whnf)
    | (refine ⟨_,_,hcko _,True.intro,?_⟩;conv=>whnf)
    | (refine ⟨_,_,hMm _,True.intro,?_⟩;conv=>whnf)
    | (refine ⟨_,_,hMn _,True.intro,?_⟩;conv=>whnf)
    | (refine ⟨_,_,hLo _,True.intro,?_⟩;conv=>whnf)
    | (refine ⟨_,_,hLn _,True.intro,?_⟩;conv=>whnf)
    | (refine ⟨_,_,hSa _,True.intro,?_⟩;conv=>whnf)
    | (intro y hy;conv=>whnf
       rw [w1] at hy;subst hy)
    | (refine And.intro (fun h_=>?_) (fun h_=>?_) <;> (conv=>whnf))
    | (refine ⟨[0],rfl,?_,True.intro⟩
       (repeat' (first | exact True.intro | exact rfl | refine And.intro ?_ ?_))
       done)
    | (refine ⟨[],rfl,?_,True.intro⟩
       (repeat' (first | exact True.intro | exact rfl | refine And.intro ?_ ?_))
       done)
    | fail)
end Go.Proofs.Ve
namespace Go.Proofs.Ytingjgfoihjelaa.treeBack
open Go Go.Proofs.Ve Go.ChangeShapes Go.WideShapes Go.ChangeAt Go.RowKit
theorem own:ownKnob Try.prog.godebug=none:=by kernel_rfl
theorem laidOut:laidOutB Try.prog=true:=by kernel_rfl
theorem lifted (os:Os) (started:os.Started) (H:Type) (enc:TypeId × Value->H) :
 ReturnsInHanded {} Try.checked os 10 .any (Rows.treeBackSpec.pre6 enc Try.prog Try.f10 Rows.treeBackRow.domain false) (Rows.treeBackSpec.post enc Try.prog Try.f10 false true false false):=by
 refine returnsInHanded_of_change_sized (C:=Try.checked) own started (by kernel_rfl) Try.func10
  (ChangeSpec.witness6 (enc:=enc) (C:=Try.checked) false ⟨#[],#[.agg #[.slice none 0 0,.slice none 0 0,.slice none 0 0],.slice none 0 0,.int .i64 0],[]⟩ 8 (by kernel_rfl) (by kernel_rfl) (by kernel_rfl) (by kernel_rfl)) ?_
 intro W base args ds gs before hval0 hW hcnd hsz0 _
 have hval:∀ (j:Nat) t v,Try.f10.params[j]? = some t->args[j]? = some v->Value.okWide Try.prog W .any base t v:=hval0
 have hW':=hW
 obtain ⟨p,q,hA0,hV,rfl,hfz,hnd⟩:=hW
 have hA:DataW.TrodAll enc Try.prog W 0 (fun _=>true) true Try.f10.params.toList args.toList ds p:=hA0
 rw [Try.params10] at hA hval
 obtain ⟨v0,vs0,d0,ds0,p0,q0,hargs,rfl,rfl,h0,r0⟩:=trodAll_cons hA
 obtain ⟨v1,vs1,d1,ds1,p1,q1,rfl,rfl,rfl,h1,r1⟩:=trodAll_cons r0
 obtain ⟨v2,vs2,d2,ds2,p2,q2,rfl,rfl,rfl,h2,r2⟩:=trodAll_cons r1
 obtain ⟨rfl,rfl,rfl⟩:=trodAll_nil r2
 obtain rfl:args = #[v0,v1,v2]:=by cases args;simp_all
 obtain ⟨rfl,rfl⟩:=trodVars_none hV
 obtain ⟨x0,rp0⟩:=tree_arg (hval 0 _ v0 rfl rfl) h0
 have lt0:∀ x ∈ p0,x.block < W.heap.size:=by obtain ⟨m,hm⟩:=h0;exact DataW.trod_lt m _ _ _ hm
 obtain ⟨e1,fit1,rp1⟩:=arg_reads 12 (r:=[.sl [.int .u8]]) (by kernel_rfl) (hval 1 _ v1 rfl rfl) h1
 obtain ⟨x1,hx1⟩:=fit_pbytes fit1
 have rp1:RP (m0 W) _ v1:=hx1 ▸ rp1
 have lt1:∀ x ∈ p1,x.block < W.heap.size:=by obtain ⟨m,hm⟩:=h1;exact DataW.trod_lt m _ _ _ hm
 obtain ⟨e2,fit2,rp2⟩:=arg_reads 12 (r:=[.int .i64]) (by kernel_rfl) (hval 2 _ v2 rfl rfl) h2
 obtain ⟨x2,hx2,hw2⟩:=fit_int fit2
 have rp2:RP (m0 W) _ v2:=hx2 ▸ rp2
 have lt2:∀ x ∈ p2,x.block < W.heap.size:=by obtain ⟨m,hm⟩:=h2;exact DataW.trod_lt m _ _ _ hm
 have call:Calls Try.prog 10 #[v0,v1,v2] W fun e W'=>e = .returned (.bool true)/\Below W.heap.size W W':=by
  refine aB.calls (t_back x0 x1 x2 []) rfl ?_
  intro j p v hp hv
  match j with
  | 0=>cases hp;cases hv;exact rp0
  | 1=>cases hp;cases hv;exact rp1
  | 2=>cases hp;cases hv;exact rp2
  | j+3=>cases hp
 refine call.mono fun e W' ⟨he,bel⟩=>?_
 subst he
 exact ⟨_,rfl,_,_,_,[],_,[],hW',trodAll_mk1 (shut_bool Try.underlying4 _),(trodAll_cons_mk (Below.trod laidOut (by kernel_rfl) (of_decide_eq_true (by kernel_rfl)) h0 bel lt0) (trodAll_cons_mk (Below.trod laidOut (by kernel_rfl) (of_decide_eq_true (by kernel_rfl)) h1 bel lt1) (trodAll_cons_mk (Below.trod laidOut (by kernel_rfl) (of_decide_eq_true (by kernel_rfl)) h2 bel lt2) trodAll_mk0))),rfl,bel.frame _,fun h=>by cases h⟩
theorem over:Rows.treeBackRow.holds Try.pinned (OpenSpec.ofChange Rows.treeBackSpec):=
 OpenClaim.holds_of_wide 10 Try.f10 rfl rfl rfl rfl rfl rfl rfl ⟨rfl,rfl,rfl,rfl,rfl⟩ rfl rfl rfl rfl rfl (by kernel_rfl) Try.func10 (by kernel_rfl)
  (of_decide_eq_true (by kernel_rfl)) (by unfold Func.isWrapper;first | (rw [if_pos (by decide +kernel)];kernel_rfl) | (rw [if_neg (by decide +kernel)];exact ⟨rfl,rfl⟩))
  (fun os started H enc _=>lifted os started H enc)
theorem proved:Rows.TreeBackSaid:=over
#print axioms proved
end Go.Proofs.Ytingjgfoihjelaa.treeBack
namespace Go.Proofs.Ytingjgfoihjelaa
theorem treeBack_holds:Rows.TreeBackSaid:=treeBack.proved
end Go.Proofs.Ytingjgfoihjelaa
