/- TreeEmpties, part 7 of 7. WHAT IS PROVED: TreeEmpties: whatever the input, the law returns true, and the input reads as it did. No condition. -/
import Derived.Test.YtingjgfoihjelaaRows
import Derived.WalkKit
import Derived.ProofKit
import Derived.OpenShut
import Derived.ShutString
import Derived.ChangeOld
import Derived.Below
import Derived.SizedLaws
import Derived.Carry
import Derived.Test.YtingjgfoihjelaaTreeEmptiesJ1
import Derived.Test.YtingjgfoihjelaaTreeEmptiesJ2
import Derived.Test.YtingjgfoihjelaaTreeEmptiesJ3
import Derived.Test.YtingjgfoihjelaaTreeEmptiesJ4
import Derived.Test.YtingjgfoihjelaaTreeEmptiesJ5
import Derived.Test.YtingjgfoihjelaaTreeEmptiesJ6
set_option maxRecDepth 100000
set_option maxHeartbeats 20000000
set_option linter.all false
open List renaming getElem?_eq_some_iff -> zJ, getElem?_eq_getElem -> zK, mem_of_getElem? -> zL, length_map -> zM, getElem?_map -> zN, getElem?_append_right -> zO, getElem?_append_left -> zP, length_take -> zQ, length_append -> zS, length_cons -> zT, length_nil -> zU, length_set -> zV, length_drop -> zW, getElem?_set_self -> zX, getElem?_set_ne -> zY, take_of_length_le -> zZ, mem_cons_self -> aAa, mem_cons_of_mem -> aAb, take_length -> aAc, map_map -> aAd, mem_singleton -> aAe, drop_eq_nil_of_le -> aAf, getElem?_take -> aAg, getElem?_drop -> aAh, getD_eq_getElem?_getD -> aAi, pairwise_append -> aAj, mem_append -> aAk, mem_of_mem_take -> aAl, mem_of_mem_drop -> aAm, mem_flatMap -> aAn, getElem?_cons_zero -> aAo, getElem?_cons_succ -> aAp, append_assoc -> aAq, mem_map -> aAr, all_eq_true -> aAs, mem_range -> aAt, getElem_mem -> aAu, drop_eq_getElem_cons -> aAv, length_replicate -> aAw, getElem?_toArray -> aBb, mem_iff_getElem? -> aBi
open Int renaming toNat_natCast -> aAx
open Nat renaming eq_of_beq_eq_true -> aAy, lt_of_lt_of_le -> aAz, lt_or_ge -> aA0, lt_succ_self -> aA1, zero_le -> aA2, le_refl -> aA3, le_trans -> aA4, le_succ -> aA8, sub_self -> aBg, add_sub_cancel -> aBh
open Option renaming map_eq_some_iff -> aA5, map_some -> aBd, getD_some -> aBe
open Option.some renaming inj -> aA6
open Bool renaming and_eq_true -> aA7, or_eq_true -> aBf
open Array renaming getElem?_toList -> aA9, getElem?_eq_some_iff -> aBa, length_toList -> aBc
namespace Go.Proofs.Ve
open Go
def kvOk (p:KV):Prop:=p.1.length<=1000000/\p.2.length < 100000 /\ ∀ v ∈ p.2,v.val.length<=1000000
theorem pI:∀ (d:Nat) (n:Node),shN d n->(∀ p ∈ aB d n,kvOk p)->nOk d n
 | 0,n,h,_=>h.elim
 | d+1,n,⟨h1,h2,h3⟩,hp=>by
   have kids4:n.kids.length<=4:=by
    rcases h3 with ⟨_,h3⟩ | ⟨h3,_⟩
    . rw [h3];exact aA2 _
    . omega
   refine ⟨by omega,by omega,by omega,fun x hx=>?_,fun y hy=>?_,fun x hx=>?_⟩
   . obtain ⟨j,hj⟩:=aBi.1 hx
     obtain ⟨c,hc⟩:=mL (d:=d) h1 hj
     exact (hp _ hc).1
   . obtain ⟨j,hj⟩:=aBi.1 hy
     have hlt:j < n.keys.length:=by have:=(zJ.1 hj).1;omega
     obtain ⟨c,hc,hpd⟩:=eL h1 (zK hlt)
     obtain rfl:c=y:=aA6 (hc.symm.trans hj)
     exact (hp (n.keys[j],c) (by rw [cZ d n j (Nat.le_of_lt hlt),hpd];simp)).2
   . rcases h3 with ⟨_,h3⟩ | ⟨h3,h4⟩
     . rw [h3] at hx;cases hx
     . obtain ⟨j,hj⟩:=aBi.1 hx
       have hlt:=(zJ.1 hj).1
       refine pI d x (h4 x hx) (fun p hpx=>hp p ?_)
       show p ∈ (List.range (n.keys.length+1)).flatMap fun i=>cW (aB d) n i++bJ n i
       rw [aAn]
       exact ⟨j,aAt.2 (by omega),List.mem_append_left _ (by unfold cW;rw [hj];exact hpx)⟩
structure Is (d:Nat) (n:Node) (L:List KV):Prop where
 ok:nOk d n
 ch:aY d n=true
 li:aB d n=L
theorem Is.kv {d:Nat} {n:Node} {L:List KV} (h:Is d n L):∀ p ∈ L,kvOk p:=fun p hp=>by rw [<- h.li] at hp;exact lD d n h.ok p hp
theorem Is.chl {d:Nat} {n:Node} {L:List KV} (h:Is d n L):dO none L=true:=by
 have:=h.ch
 unfold aY at this
 split at this
 . cases this
 . rw [h.li] at this;exact this
theorem Is.so {d:Nat} {n:Node} {L:List KV} (h:Is d n L):bH L:=(dZ _ _ h.chl).1
theorem Is.pr {d:Nat} {n:Node} {L:List KV} (h:Is d n L):eD d n=L:=by rw [xL h.ch,h.li]
theorem Is.ks {d:Nat} {n:Node} {L:List KV} (h:Is d n L):iI d n=L.map (·.1):=by rw [yS,h.pr]
theorem Is.fi {d:Nat} {n:Node} {L:List KV} (h:Is d n L) (k:List UInt8):jS d n k=(L.find? (eqP k)).map (·.2):=by rw [yT h.ok,h.pr]
theorem Is.len {d:Nat} {n:Node} {L:List KV} (h:Is d n L) (hd:d<=16):L.length < 4294967296:=by rw [<- h.pr];exact xM hd h.ok
theorem uS {k:List UInt8} {l:List Ver}:∀ {L:List KV} {p:KV},p ∈ cE k l L->p=(k,l)\/p ∈ L
 | [],p,h=>.inl (aAe.1 h)
 | q::L,p,h=>by
   unfold cE at h
   split at h
   . rcases List.mem_cons.1 h with rfl | h
     . exact .inr (aAa ..)
     . rcases uS h with h | h
       . exact .inl h
       . exact .inr (aAb _ h)
   . split at h
     . rcases List.mem_cons.1 h with h | h
       . exact .inl h
       . exact .inr (aAb _ h)
     . rcases List.mem_cons.1 h with h | h
       . exact .inl h
       . exact .inr h
theorem xY {d:Nat} {n:Node} {k:List UInt8} {l:List Ver} (hn:nOk d n) (hok:aY d n=true) (h3:n.keys.length=3) (hk:k.length<=16) (hl:l.length≠0) (hv:vsOk l=true) :
 ∃ e,e+1<=d/\n.chains.length=3/\putGo (2*(e+2)) (splitN (cT n) 0) k/\shN (e+2) (putN (2*(e+2)) (splitN (cT n) 0) k l)/\aB (e+2) (putN (2*(e+2)) (splitN (cT n) 0) k l)=cE k l (aB d n)/\aY (e+2) (putN (2*(e+2)) (splitN (cT n) 0) k l)=true:=by
 unfold aY at hok
 split at hok
 . cases hok
 rename_i h0
 have h0:deepN n 0≠0:=by simpa using h0
 obtain ⟨e,he,he2,hsh⟩:=fP d n 0 hn h0
 have hmn:=mU (e+1) d n he (jC d n 0 hn h0)
 have hA:=jW (e+1) n hsh d he
 rw [hA] at hok ⊢
 have hc:(cT n).kids[0]? = some n:=rfl
 have hR:shN (e+2) (cT n):=⟨rfl,aA2 _,.inr ⟨rfl,fun c hcm=>by
  rw [aAe.1 (show c ∈ [n] from hcm)];exact hsh⟩⟩
 have hM:mnN (e+2) (cT n):=fun c hcm=>by
  rw [aAe.1 (show c ∈ [n] from hcm)];exact ⟨by omega,hmn⟩
 obtain ⟨c1,c2⟩:=jN hsh h3
 have hS:=gU e (cT n) n 0 hc rfl rfl h3 c1 c2
 have hT:aB (e+2) (cT n)=aB (e+1) n:=by
  rw [aM (e+1) (cT n) rfl (.inl rfl)]
  exact jV _
 rw [hT] at hS
 have hkeys:(splitN (cT n) 0).keys.length=1:=by rw [eY hc];rfl
 have hsh2:=jO hR (by show (0:Nat) < 3;decide) hc h3
 obtain ⟨p1,p2,p3,p4⟩:=yV (k:=k) (l:=l) hsh2 (sS hM hc h3) (by rw [hS];exact hok) (.inr (by omega)) (by omega) hk hl hv
 have hs:bH (aB (e+2) (splitN (cT n) 0)):=by rw [hS];exact (dZ _ _ hok).1
 rw [hS] at p2
 exact ⟨e,he,c1,p1,(mJ k l (2*(e+2)) (e+2) _ hsh2 hs p1 (.inl (by omega))).1,p2,p4⟩
theorem kT (n:Node) (z:Int):fz (nodeR n) 3 (.tuple [nodeV n,.d (.int .i64 z)]) = .tuple [pNode n,.d (.int .i64 z)]:=by
 have l1:(aF n.keys).length=n.keys.length:=zM ..
 have l2:(aG n.chains).length=n.chains.length:=zM ..
 have l3:(n.kids.map cNode).length=n.kids.length:=zM ..
 show PV.tuple [.agg [.d (.sl ((aF n.keys).take n.keys.length)),.d (.sl ((aG n.chains).take n.chains.length)),.d (.sl ((plRows (n.kids.map ownN)).take n.kids.length))],.d (.int .i64 z)]=_
 rw [pl_kids,zZ (by omega),zZ (by omega),zZ (by omega)]
 rfl
theorem xZ {d:Nat} {n:Node} {L:List KV} (h:Is d n L) (hd:d < 1000000) {k:List UInt8} {l:List Ver} (hk:k.length<=16) (hl:l.length≠0) (hl2:l.length < 100000) (hv:vsOk l=true) (hlv:∀ v ∈ l,v.val.length<=1000000) :
 ∃ d' R,d'<=d+1/\Is d' R (cE k l L) /\ ∀ H,aE X H 28 [pNode n,.d (aJ k),.d (encVs l)] (.tuple [pNode R,.d (.int .i64 0)]) []:=by
 have hpo:fJ d n k l=true:=by
  unfold fJ
  rw [h.ch,hv,decide_eq_true (by omega:(k.length:Int)<=16)]
  have:((l.length:Int)==0)=false:=by simpa using hl
  rw [this];rfl
 have kv:∀ p ∈ cE k l L,kvOk p:=fun p hp=>by
  rcases uS hp with rfl | hp
  . exact ⟨by show k.length<=1000000;omega,hl2,hlv⟩
  . exact h.kv p hp
 rcases aA0 n.keys.length 3 with h3 | h3
 . obtain ⟨e,he,hgo,hli,hsh,_,hch⟩:=xS (k:=k) (l:=l) h.ok h.ch h3 hk hl hv
   rw [h.li] at hli
   exact ⟨e+1,_,by omega,⟨pI _ _ hsh (by rw [hli];exact kv),hch,hli⟩,fun H=>
    (d_PutD d _ n k l hd h.ok h3 (by omega) (by omega) hlv hpo hgo H).freeze 3 (kT _ _)⟩
 . have h3:n.keys.length=3:=by
    have hc:=h.ch
    unfold aY at hc
    split at hc
    . cases hc
    . rename_i h0
      obtain ⟨e,_,_,hsh⟩:=fP d n 0 h.ok (by simpa using h0)
      have:=hsh.2.1
      omega
   obtain ⟨e,he,h4,hgo,hsh,hli,hch⟩:=xY (k:=k) (l:=l) h.ok h.ch h3 hk hl hv
   rw [h.li] at hli
   exact ⟨e+2,_,by omega,⟨pI _ _ hsh (by rw [hli];exact kv),hch,hli⟩,fun H=>
    (d_PutF d _ n k l hd h.ok h3 h4 (by omega) (by omega) hlv hpo hgo H).freeze 3 (kT _ _)⟩
theorem uT {d:Nat} {n:Node} (hn:nOk d n) (hd:d < 1000000) {k:List UInt8} {l:List Ver} (hl2:l.length < 1000000) (hp:fJ d n k l=false) (H:List (List Blk)) :
 aE X H 28 [pNode n,.d (aJ k),.d (encVs l)] (.tuple [pNode n,.d (.int .i64 1)]) []:=(d_PutED d n k l hd hn hl2 hp H).freeze 3 (kT _ _)
theorem is_delM {d:Nat} {n:Node} {L:List KV} (h:Is d n L) (hd:d<=16) {k:List UInt8} (hf:L.find? (eqP k)=none) (H:List (List Blk)) :
 aE X H 29 [pNode n,.d (aJ k)] (.tuple [pNode n,.d (.int .i64 61)]) []:=(d_DelM d n k hd h.ok h.ch (by rw [h.fi,hf];rfl) H).freeze 3 (kT _ _)
theorem vX {d:Nat} {n:Node} {k:List UInt8} (hn:nOk d n) (hok:aY d n=true) :
 ∃ e e':Nat,e+1<=d/\e'<=e/\RmC n k (bL (2*(e+1)) n k)/\shN (e+1) (bL (2*(e+1)) n k)/\shN (e'+1) (iE (bL (2*(e+1)) n k))/\aB (e'+1) (iE (bL (2*(e+1)) n k))=cH k (aB d n)/\aY (e'+1) (iE (bL (2*(e+1)) n k))=true:=by
 unfold aY at hok
 split at hok
 . cases hok
 rename_i h0
 have h0:deepN n 0≠0:=by simpa using h0
 obtain ⟨e,he,he2,hsh⟩:=fP d n 0 hn h0
 have hmn:=mU (e+1) d n he (jC d n 0 hn h0)
 have hA:=jW (e+1) n hsh d he
 rw [hA] at hok ⊢
 have hs:=(dZ _ _ hok).1
 have hroot:n.kids = []\/0 < n.keys.length:=by
  obtain ⟨_,_,_,h4⟩:=cG h0
  rcases h4 with ⟨h4,_⟩ | ⟨_,h5,_⟩
  . exact .inl h4
  . exact .inr (by omega)
 have r:=rm (e+1) (2*(e+1)) n k ⟨hsh,hmn,hs⟩ (aA3 _) hroot
 have rc:=rmC (e+1) (2*(e+1)) n k ⟨hsh,hmn,hs⟩ (aA3 _) hroot
 refine ⟨e,?_⟩
 generalize bL (2*(e+1)) n k=R at r rc ⊢
 have hch:dO none (aB (e+1) R)=true:=by rw [r.li];exact sX k _ _ hok
 unfold iE
 by_cases hq:R.keys.length=0/\leafN R=false
 . rw [if_pos hq]
   obtain ⟨hq1,hq2⟩:=hq
   obtain ⟨q1,q2,q3⟩:=r.sh
   rcases q3 with ⟨_,q3⟩ | ⟨q3,q4⟩
   . exact absurd q3 (iO hq2)
   have hc:=aW (n:=R) (i:=0) (by omega)
   have hm:=zL hc
   obtain ⟨e',rfl⟩:=gV (q4 _ hm)
   have hl:aB (e'+2) R=aB (e'+1) (aA R 0):=by
    rw [aM (e'+1) R q1 (.inl q3)]
    have e1:R.kids = [aA R 0]:=by
     have:=dW hc
     rw [List.take_zero,aAf (by omega)] at this
     simpa using this
    have e2:prs R = []:=List.eq_nil_of_length_eq_zero (by rw [fN q1];exact hq1)
    rw [e2,e1]
    exact jV _
   have hd:=gW e' (aA R 0) 0 (q4 _ hm) (r.mn _ hm).2 (.inr (by have:=(r.mn _ hm).1;omega)) (by omega)
   refine ⟨e',he,aA8 _,rc,r.sh,q4 _ hm,by rw [<- hl,r.li],?_⟩
   unfold aY
   rw [hd,if_neg (by simp only [beq_iff_eq];omega),<- hl]
   exact hch
 . rw [if_neg hq]
   have hr:R.kids = []\/R.keys.length≠0:=by
    by_cases hz:R.keys.length=0
    . left
      cases hl:leafN R with
      | true=>exact iB hl
      | false=>exact absurd ⟨hz,hl⟩ hq
    . exact .inr hz
   have hd:=gW e R 0 r.sh r.mn hr (by omega)
   refine ⟨e,he,aA3 _,rc,r.sh,r.sh,r.li,?_⟩
   unfold aY
   rw [hd,if_neg (by simp only [beq_iff_eq];omega)]
   exact hch
theorem yA {d:Nat} {n:Node} {L:List KV} (h:Is d n L) (hd:d<=16) {k:List UInt8} (hk:k.length<=1000000) {p:KV} (hf:L.find? (eqP k)=some p) :
 ∃ d' R,d'<=d/\Is d' R (cH k L) /\ ∀ H,aE X H 29 [pNode n,.d (aJ k)] (.tuple [pNode R,.d (.int .i64 0)]) []:=by
 obtain ⟨e,e',he,he',hc,hsh0,hsh,hli,hch⟩:=vX (k:=k) h.ok h.ch
 rw [h.li] at hli
 refine ⟨e'+1,_,by omega,⟨pI _ _ hsh (by rw [hli];exact fun p hp=>h.kv p (List.mem_filter.1 hp).1),hch,hli⟩,fun H=>
  (d_DelD d n k p.2 _ hd h.ok hk h.ch (by rw [h.fi,hf];rfl) hc (fun hl=>?_) ?_ H).freeze 3 (kT _ _)⟩
 . rcases hsh0.2.2 with ⟨_,h0⟩ | ⟨h0,_⟩
   . exact absurd h0 (iO hl)
   . omega
 . have:=hsh0.2.1
   rcases hsh0.2.2 with ⟨_,h0⟩ | ⟨h0,_⟩
   . rw [h0];decide
   . omega
def vA:Ver:=⟨1,false,[]⟩
def vB:Ver:=⟨2,false,[]⟩
theorem ok0:nOk 1 (.mk [] [] []):=mE 1 _ (by decide)
theorem chk0:aY 1 (.mk [] [] [])=true:=by decide
theorem vY (z:Int) (H:List (List Blk)):aE X H 34 [.d (.int .i64 z)] (.d (encVs [⟨z,false,[]⟩])) []:=by
 refine callEq_of_body aX rfl Try.func34 rfl ?_
 conv=>whnf
 repeat' (first
  | (refine And.intro (fun h_=>?_) (fun h_=>?_) <;> (conv=>whnf))
  | (intro z_ hz_;conv=>whnf)
  | (refine ⟨[],rfl,?_,True.intro⟩;(conv=>whnf);(first | done | ((repeat' (first | exact True.intro | exact rfl | refine And.intro ?_ ?_));done)))
  | fail)
def mo12:List (Nat × Tr):=[(2,.cut (.alt 0 (.alt 1 (.alt 2 (.alt 3 (.alt 4 (.alt 5 (.alt 6 (.alt 7 (.alt 8 (.alt 9 (.alt 10 .fin .none) .none) .none) .none) .none) .none) (.alt 8 (.alt 4 (.alt 5 (.alt 6 (.alt 7 (.alt 9 (.alt 10 .fin .none) .none) .none) .none) .none) .none) .none)) (.alt 8 (.alt 3 (.alt 4 (.alt 5 (.alt 6 (.alt 7 (.alt 9 (.alt 10 .fin .none) .none) .none) .none) .none) .none) .none) .none)) (.alt 3 (.alt 2 (.alt 4 (.alt 5 (.alt 6 (.alt 7 (.alt 8 (.alt 9 (.alt 10 .fin .none) .none) .none) .none) .none) .none) (.alt 8 (.alt 4 (.alt 5 (.alt 6 (.alt 7 (.alt 9 (.alt 10 .fin .none) .none) .none) .none) .none) .none) .none)) (.alt 8 (.alt 2 (.alt 4 (.alt 5 (.alt 6 (.alt 7 (.alt 9 (.alt 10 .fin .none) .none) .none) .none) .none) .none) .none) .none)) (.alt 8 (.alt 2 (.alt 3 (.alt 4 (.alt 5 (.alt 6 (.alt 7 (.alt 9 (.alt 10 .fin .none) .none) .none) .none) .none) .none) .none) (.alt 3 (.alt 2 (.alt 4 (.alt 5 (.alt 6 (.alt 7 (.alt 9 (.alt 10 .fin .none) .none) .none) .none) .none) .none) .none) .none)) .none))) (.alt 3 (.alt 1 (.alt 2 (.alt 4 (.alt 5 (.alt 6 (.alt 7 (.alt 8 (.alt 9 (.alt 10 .fin .none) .none) .none) .none) .none) .none) (.alt 8 (.alt 4 (.alt 5 (.alt 6 (.alt 7 (.alt 9 (.alt 10 .fin .none) .none) .none) .none) .none) .none) .none)) (.alt 8 (.alt 2 (.alt 4 (.alt 5 (.alt 6 (.alt 7 (.alt 9 (.alt 10 .fin .none) .none) .none) .none) .none) .none) .none) .none)) (.alt 8 (.alt 1 (.alt 2 (.alt 4 (.alt 5 (.alt 6 (.alt 7 (.alt 9 (.alt 10 .fin .none) .none) .none) .none) .none) .none) .none) .none) .none)) (.alt 8 (.alt 1 (.alt 2 (.alt 3 (.alt 4 (.alt 5 (.alt 6 (.alt 7 (.alt 9 (.alt 10 .fin .none) .none) .none) .none) .none) .none) .none) (.alt 3 (.alt 2 (.alt 4 (.alt 5 (.alt 6 (.alt 7 (.alt 9 (.alt 10 .fin .none) .none) .none) .none) .none) .none) .none) .none)) (.alt 3 (.alt 1 (.alt 2 (.alt 4 (.alt 5 (.alt 6 (.alt 7 (.alt 9 (.alt 10 .fin .none) .none) .none) .none) .none) .none) .none) .none) .none)) .none))) (.alt 1 (.alt 0 (.alt 2 (.alt 3 (.alt 4 (.alt 5 (.alt 6 (.alt 7 (.alt 8 (.alt 9 (.alt 10 .fin .none) .none) .none) .none) .none) .none) (.alt 8 (.alt 4 (.alt 5 (.alt 6 (.alt 7 (.alt 9 (.alt 10 .fin .none) .none) .none) .none) .none) .none) .none)) (.alt 8 (.alt 3 (.alt 4 (.alt 5 (.alt 6 (.alt 7 (.alt 9 (.alt 10 .fin .none) .none) .none) .none) .none) .none) .none) .none)) (.alt 3 (.alt 2 (.alt 4 (.alt 5 (.alt 6 (.alt 7 (.alt 8 (.alt 9 (.alt 10 .fin .none) .none) .none) .none) .none) .none) (.alt 8 (.alt 4 (.alt 5 (.alt 6 (.alt 7 (.alt 9 (.alt 10 .fin .none) .none) .none) .none) .none) .none) .none)) (.alt 8 (.alt 2 (.alt 4 (.alt 5 (.alt 6 (.alt 7 (.alt 9 (.alt 10 .fin .none) .none) .none) .none) .none) .none) .none) .none)) (.alt 8 (.alt 2 (.alt 3 (.alt 4 (.alt 5 (.alt 6 (.alt 7 (.alt 9 (.alt 10 .fin .none) .none) .none) .none) .none) .none) .none) (.alt 3 (.alt 2 (.alt 4 (.alt 5 (.alt 6 (.alt 7 (.alt 9 (.alt 10 .fin .none) .none) .none) .none) .none) .none) .none) .none)) .none))) (.alt 2 (.alt 0 (.alt 3 (.alt 4 (.alt 5 (.alt 6 (.alt 7 (.alt 8 (.alt 9 (.alt 10 .fin .none) .none) .none) .none) .none) .none) (.alt 8 (.alt 4 (.alt 5 (.alt 6 (.alt 7 (.alt 9 (.alt 10 .fin .none) .none) .none) .none) .none) .none) .none)) (.alt 8 (.alt 3 (.alt 4 (.alt 5 (.alt 6 (.alt 7 (.alt 9 (.alt 10 .fin .none) .none) .none) .none) .none) .none) .none) .none)) (.alt 3 (.alt 0 (.alt 4 (.alt 5 (.alt 6 (.alt 7 (.alt 8 (.alt 9 (.alt 10 .fin .none) .none) .none) .none) .none) .none) (.alt 8 (.alt 4 (.alt 5 (.alt 6 (.alt 7 (.alt 9 (.alt 10 .fin .none) .none) .none) .none) .none) .none) .none)) (.alt 8 (.alt 0 (.alt 4 (.alt 5 (.alt 6 (.alt 7 (.alt 9 (.alt 10 .fin .none) .none) .none) .none) .none) .none) .none) .none)) (.alt 8 (.alt 0 (.alt 3 (.alt 4 (.alt 5 (.alt 6 (.alt 7 (.alt 9 (.alt 10 .fin .none) .none) .none) .none) .none) .none) .none) (.alt 3 (.alt 0 (.alt 4 (.alt 5 (.alt 6 (.alt 7 (.alt 9 (.alt 10 .fin .none) .none) .none) .none) .none) .none) .none) .none)) .none))) (.alt 3 (.alt 0 (.alt 2 (.alt 4 (.alt 5 (.alt 6 (.alt 7 (.alt 8 (.alt 9 (.alt 10 .fin .none) .none) .none) .none) .none) .none) (.alt 8 (.alt 4 (.alt 5 (.alt 6 (.alt 7 (.alt 9 (.alt 10 .fin .none) .none) .none) .none) .none) .none) .none)) (.alt 8 (.alt 2 (.alt 4 (.alt 5 (.alt 6 (.alt 7 (.alt 9 (.alt 10 .fin .none) .none) .none) .none) .none) .none) .none) .none)) (.alt 2 (.alt 0 (.alt 4 (.alt 5 (.alt 6 (.alt 7 (.alt 8 (.alt 9 (.alt 10 .fin .none) .none) .none) .none) .none) .none) (.alt 8 (.alt 4 (.alt 5 (.alt 6 (.alt 7 (.alt 9 (.alt 10 .fin .none) .none) .none) .none) .none) .none) .none)) (.alt 8 (.alt 0 (.alt 4 (.alt 5 (.alt 6 (.alt 7 (.alt 9 (.alt 10 .fin .none) .none) .none) .none) .none) .none) .none) .none)) (.alt 8 (.alt 0 (.alt 2 (.alt 4 (.alt 5 (.alt 6 (.alt 7 (.alt 9 (.alt 10 .fin .none) .none) .none) .none) .none) .none) .none) (.alt 2 (.alt 0 (.alt 4 (.alt 5 (.alt 6 (.alt 7 (.alt 9 (.alt 10 .fin .none) .none) .none) .none) .none) .none) .none) .none)) .none))) (.alt 8 (.alt 0 (.alt 2 (.alt 3 (.alt 4 (.alt 5 (.alt 6 (.alt 7 (.alt 9 (.alt 10 .fin .none) .none) .none) .none) .none) .none) .none) (.alt 3 (.alt 2 (.alt 4 (.alt 5 (.alt 6 (.alt 7 (.alt 9 (.alt 10 .fin .none) .none) .none) .none) .none) .none) .none) .none)) (.alt 2 (.alt 0 (.alt 3 (.alt 4 (.alt 5 (.alt 6 (.alt 7 (.alt 9 (.alt 10 .fin .none) .none) .none) .none) .none) .none) .none) (.alt 3 (.alt 0 (.alt 4 (.alt 5 (.alt 6 (.alt 7 (.alt 9 (.alt 10 .fin .none) .none) .none) .none) .none) .none) .none) .none)) (.alt 3 (.alt 0 (.alt 2 (.alt 4 (.alt 5 (.alt 6 (.alt 7 (.alt 9 (.alt 10 .fin .none) .none) .none) .none) .none) .none) .none) (.alt 2 (.alt 0 (.alt 4 (.alt 5 (.alt 6 (.alt 7 (.alt 9 (.alt 10 .fin .none) .none) .none) .none) .none) .none) .none) .none)) .none))) .none)))) (.alt 3 (.alt 0 (.alt 1 (.alt 2 (.alt 4 (.alt 5 (.alt 6 (.alt 7 (.alt 8 (.alt 9 (.alt 10 .fin .none) .none) .none) .none) .none) .none) (.alt 8 (.alt 4 (.alt 5 (.alt 6 (.alt 7 (.alt 9 (.alt 10 .fin .none) .none) .none) .none) .none) .none) .none)) (.alt 8 (.alt 2 (.alt 4 (.alt 5 (.alt 6 (.alt 7 (.alt 9 (.alt 10 .fin .none) .none) .none) .none) .none) .none) .none) .none)) (.alt 8 (.alt 1 (.alt 2 (.alt 4 (.alt 5 (.alt 6 (.alt 7 (.alt 9 (.alt 10 .fin .none) .none) .none) .none) .none) .none) .none) .none) .none)) (.alt 1 (.alt 0 (.alt 2 (.alt 4 (.alt 5 (.alt 6 (.alt 7 (.alt 8 (.alt 9 (.alt 10 .fin .none) .none) .none) .none) .none) .none) (.alt 8 (.alt 4 (.alt 5 (.alt 6 (.alt 7 (.alt 9 (.alt 10 .fin .none) .none) .none) .none) .none) .none) .none)) (.alt 8 (.alt 2 (.alt 4 (.alt 5 (.alt 6 (.alt 7 (.alt 9 (.alt 10 .fin .none) .none) .none) .none) .none) .none) .none) .none)) (.alt 2 (.alt 0 (.alt 4 (.alt 5 (.alt 6 (.alt 7 (.alt 8 (.alt 9 (.alt 10 .fin .none) .none) .none) .none) .none) .none) (.alt 8 (.alt 4 (.alt 5 (.alt 6 (.alt 7 (.alt 9 (.alt 10 .fin .none) .none) .none) .none) .none) .none) .none)) (.alt 8 (.alt 0 (.alt 4 (.alt 5 (.alt 6 (.alt 7 (.alt 9 (.alt 10 .fin .none) .none) .none) .none) .none) .none) .none) .none)) (.alt 8 (.alt 0 (.alt 2 (.alt 4 (.alt 5 (.alt 6 (.alt 7 (.alt 9 (.alt 10 .fin .none) .none) .none) .none) .none) .none) .none) (.alt 2 (.alt 0 (.alt 4 (.alt 5 (.alt 6 (.alt 7 (.alt 9 (.alt 10 .fin .none) .none) .none) .none) .none) .none) .none) .none)) .none))) (.alt 8 (.alt 0 (.alt 1 (.alt 2 (.alt 4 (.alt 5 (.alt 6 (.alt 7 (.alt 9 (.alt 10 .fin .none) .none) .none) .none) .none) .none) .none) .none) (.alt 1 (.alt 0 (.alt 2 (.alt 4 (.alt 5 (.alt 6 (.alt 7 (.alt 9 (.alt 10 .fin .none) .none) .none) .none) .none) .none) .none) (.alt 2 (.alt 0 (.alt 4 (.alt 5 (.alt 6 (.alt 7 (.alt 9 (.alt 10 .fin .none) .none) .none) .none) .none) .none) .none) .none)) .none)) .none))) (.alt 8 (.alt 0 (.alt 1 (.alt 2 (.alt 3 (.alt 4 (.alt 5 (.alt 6 (.alt 7 (.alt 9 (.alt 10 .fin .none) .none) .none) .none) .none) .none) .none) (.alt 3 (.alt 2 (.alt 4 (.alt 5 (.alt 6 (.alt 7 (.alt 9 (.alt 10 .fin .none) .none) .none) .none) .none) .none) .none) .none)) (.alt 3 (.alt 1 (.alt 2 (.alt 4 (.alt 5 (.alt 6 (.alt 7 (.alt 9 (.alt 10 .fin .none) .none) .none) .none) .none) .none) .none) .none) .none)) (.alt 1 (.alt 0 (.alt 2 (.alt 3 (.alt 4 (.alt 5 (.alt 6 (.alt 7 (.alt 9 (.alt 10 .fin .none) .none) .none) .none) .none) .none) .none) (.alt 3 (.alt 2 (.alt 4 (.alt 5 (.alt 6 (.alt 7 (.alt 9 (.alt 10 .fin .none) .none) .none) .none) .none) .none) .none) .none)) (.alt 2 (.alt 0 (.alt 3 (.alt 4 (.alt 5 (.alt 6 (.alt 7 (.alt 9 (.alt 10 .fin .none) .none) .none) .none) .none) .none) .none) (.alt 3 (.alt 0 (.alt 4 (.alt 5 (.alt 6 (.alt 7 (.alt 9 (.alt 10 .fin .none) .none) .none) .none) .none) .none) .none) .none)) (.alt 3 (.alt 0 (.alt 2 (.alt 4 (.alt 5 (.alt 6 (.alt 7 (.alt 9 (.alt 10 .fin .none) .none) .none) .none) .none) .none) .none) (.alt 2 (.alt 0 (.alt 4 (.alt 5 (.alt 6 (.alt 7 (.alt 9 (.alt 10 .fin .none) .none) .none) .none) .none) .none) .none) .none)) .none))) (.alt 3 (.alt 0 (.alt 1 (.alt 2 (.alt 4 (.alt 5 (.alt 6 (.alt 7 (.alt 9 (.alt 10 .fin .none) .none) .none) .none) .none) .none) .none) .none) (.alt 1 (.alt 0 (.alt 2 (.alt 4 (.alt 5 (.alt 6 (.alt 7 (.alt 9 (.alt 10 .fin .none) .none) .none) .none) .none) .none) .none) (.alt 2 (.alt 0 (.alt 4 (.alt 5 (.alt 6 (.alt 7 (.alt 9 (.alt 10 .fin .none) .none) .none) .none) .none) .none) .none) .none)) .none)) .none))) .none))))),(9,.cut (.alt 0 (.alt 1 (.alt 2 (.alt 3 (.alt 4 (.alt 5 (.alt 6 (.alt 7 (.alt 8 (.alt 9 .fin .none) .none) .none) .none) .none) .none) (.alt 7 (.alt 3 (.alt 4 (.alt 5 (.alt 6 (.alt 8 (.alt 9 .fin .none) .none) .none) .none) .none) .none) .none)) (.alt 7 (.alt 2 (.alt 3 (.alt 4 (.alt 5 (.alt 6 (.alt 8 (.alt 9 .fin .none) .none) .none) .none) .none) .none) .none) .none)) (.alt 2 (.alt 1 (.alt 3 (.alt 4 (.alt 5 (.alt 6 (.alt 7 (.alt 8 (.alt 9 .fin .none) .none) .none) .none) .none) .none) (.alt 7 (.alt 3 (.alt 4 (.alt 5 (.alt 6 (.alt 8 (.alt 9 .fin .none) .none) .none) .none) .none) .none) .none)) (.alt 7 (.alt 1 (.alt 3 (.alt 4 (.alt 5 (.alt 6 (.alt 8 (.alt 9 .fin .none) .none) .none) .none) .none) .none) .none) .none)) (.alt 7 (.alt 1 (.alt 2 (.alt 3 (.alt 4 (.alt 5 (.alt 6 (.alt 8 (.alt 9 .fin .none) .none) .none) .none) .none) .none) .none) (.alt 2 (.alt 1 (.alt 3 (.alt 4 (.alt 5 (.alt 6 (.alt 8 (.alt 9 .fin .none) .none) .none) .none) .none) .none) .none) .none)) .none))) (.alt 1 (.alt 0 (.alt 2 (.alt 3 (.alt 4 (.alt 5 (.alt 6 (.alt 7 (.alt 8 (.alt 9 .fin .none) .none) .none) .none) .none) .none) (.alt 7 (.alt 3 (.alt 4 (.alt 5 (.alt 6 (.alt 8 (.alt 9 .fin .none) .none) .none) .none) .none) .none) .none)) (.alt 7 (.alt 2 (.alt 3 (.alt 4 (.alt 5 (.alt 6 (.alt 8 (.alt 9 .fin .none) .none) .none) .none) .none) .none) .none) .none)) (.alt 2 (.alt 0 (.alt 3 (.alt 4 (.alt 5 (.alt 6 (.alt 7 (.alt 8 (.alt 9 .fin .none) .none) .none) .none) .none) .none) (.alt 7 (.alt 3 (.alt 4 (.alt 5 (.alt 6 (.alt 8 (.alt 9 .fin .none) .none) .none) .none) .none) .none) .none)) (.alt 7 (.alt 0 (.alt 3 (.alt 4 (.alt 5 (.alt 6 (.alt 8 (.alt 9 .fin .none) .none) .none) .none) .none) .none) .none) .none)) (.alt 7 (.alt 0 (.alt 2 (.alt 3 (.alt 4 (.alt 5 (.alt 6 (.alt 8 (.alt 9 .fin .none) .none) .none) .none) .none) .none) .none) (.alt 2 (.alt 0 (.alt 3 (.alt 4 (.alt 5 (.alt 6 (.alt 8 (.alt 9 .fin .none) .none) .none) .none) .none) .none) .none) .none)) .none))) (.alt 2 (.alt 0 (.alt 1 (.alt 3 (.alt 4 (.alt 5 (.alt 6 (.alt 7 (.alt 8 (.alt 9 .fin .none) .none) .none) .none) .none) .none) (.alt 7 (.alt 3 (.alt 4 (.alt 5 (.alt 6 (.alt 8 (.alt 9 .fin .none) .none) .none) .none) .none) .none) .none)) (.alt 7 (.alt 1 (.alt 3 (.alt 4 (.alt 5 (.alt 6 (.alt 8 (.alt 9 .fin .none) .none) .none) .none) .none) .none) .none) .none)) (.alt 1 (.alt 0 (.alt 3 (.alt 4 (.alt 5 (.alt 6 (.alt 7 (.alt 8 (.alt 9 .fin .none) .none) .none) .none) .none) .none) (.alt 7 (.alt 3 (.alt 4 (.alt 5 (.alt 6 (.alt 8 (.alt 9 .fin .none) .none) .none) .none) .none) .none) .none)) (.alt 7 (.alt 0 (.alt 3 (.alt 4 (.alt 5 (.alt 6 (.alt 8 (.alt 9 .fin .none) .none) .none) .none) .none) .none) .none) .none)) (.alt 7 (.alt 0 (.alt 1 (.alt 3 (.alt 4 (.alt 5 (.alt 6 (.alt 8 (.alt 9 .fin .none) .none) .none) .none) .none) .none) .none) (.alt 1 (.alt 0 (.alt 3 (.alt 4 (.alt 5 (.alt 6 (.alt 8 (.alt 9 .fin .none) .none) .none) .none) .none) .none) .none) .none)) .none))) (.alt 7 (.alt 0 (.alt 1 (.alt 2 (.alt 3 (.alt 4 (.alt 5 (.alt 6 (.alt 8 (.alt 9 .fin .none) .none) .none) .none) .none) .none) .none) (.alt 2 (.alt 1 (.alt 3 (.alt 4 (.alt 5 (.alt 6 (.alt 8 (.alt 9 .fin .none) .none) .none) .none) .none) .none) .none) .none)) (.alt 1 (.alt 0 (.alt 2 (.alt 3 (.alt 4 (.alt 5 (.alt 6 (.alt 8 (.alt 9 .fin .none) .none) .none) .none) .none) .none) .none) (.alt 2 (.alt 0 (.alt 3 (.alt 4 (.alt 5 (.alt 6 (.alt 8 (.alt 9 .fin .none) .none) .none) .none) .none) .none) .none) .none)) (.alt 2 (.alt 0 (.alt 1 (.alt 3 (.alt 4 (.alt 5 (.alt 6 (.alt 8 (.alt 9 .fin .none) .none) .none) .none) .none) .none) .none) (.alt 1 (.alt 0 (.alt 3 (.alt 4 (.alt 5 (.alt 6 (.alt 8 (.alt 9 .fin .none) .none) .none) .none) .none) .none) .none) .none)) .none))) .none)))))]
theorem Is.many {d:Nat} {n:Node} {L:List KV} (h:Is d n L) (hd:d<=16) (H:List (List Blk)):aE X H 24 [pNode n] (.d (.int .i64 L.length)) []:=by
 have:=d_many d n hd h.ok H
 rw [h.ks,zM] at this
 exact this
theorem Is.flat {d:Nat} {n:Node} {L:List KV} (h:Is d n L) (hd:d<=16) (hl:L.length<=1) (H:List (List Blk)):aE X H 25 [pNode n] (.d (.int .i64 1)) []:=by
 have:=d_depth d n hd h.ok H
 obtain ⟨e,he,_,b2,b3⟩:=sM d n 0 h.ok (lE h.ch)
 rw [h.li] at b2
 have e0:e=0:=by
  rcases Nat.eq_zero_or_pos n.keys.length with hz | hz
  . exact (b3 hz).1
  . have b2:=b2 hz
    cases e with
    | zero=>rfl
    | succ e=>
      have:2 ^ 2<=2 ^ (e+1+1):=Nat.pow_le_pow_right (by decide) (by omega)
      omega
 subst e0
 unfold sC at this
 rw [if_pos h.ch,he] at this
 exact this
theorem oE (H:List (List Blk)):aE X H 12 [] (.d (.bool true)) []:=by
 have I0:Is 1 (.mk [] [] []) []:=⟨ok0,chk0,rfl⟩
 have hv:∀ z:Int,∀ v ∈ [(⟨z,false,[]⟩:Ver)],v.val.length<=1000000:=fun z v hv=>by rw [aAe.1 hv];exact aA2 _
 obtain ⟨da,a,ha,Ia,P1⟩:=xZ I0 (by decide) (k:=[98]) (l:=[vA]) (by decide) (by decide) (by decide) (by decide) (hv 1)
 obtain ⟨db,b,hb,Ib,P2⟩:=xZ Ia (by omega) (k:=[97]) (l:=[vB]) (by decide) (by decide) (by decide) (by decide) (hv 2)
 have lb:cE [97] [vB] (cE [98] [vA] []) = [([97],[vB]),([98],[vA])]:=by
  show (if cm [98] [97] < 0 then _ else if cm [98] [97]=0 then _ else _)=_
  rw [if_neg (by decide),if_neg (by decide)]
 rw [lb] at Ib
 have f97:List.find? (eqP [97]) [(([97]:List UInt8),[vB]),([98],[vA])]=some ([97],[vB]):=by kernel_rfl
 have f98:List.find? (eqP [98]) [(([97]:List UInt8),[vB]),([98],[vA])]=some ([98],[vA]):=by kernel_rfl
 have g1:List.find? (geP [97,97]) [(([97]:List UInt8),[vB]),([98],[vA])]=some ([98],[vA]):=by kernel_rfl
 have g2:List.find? (geP [99]) [(([97]:List UInt8),[vB]),([98],[vA])]=none:=by kernel_rfl
 obtain ⟨dd,c,hd,Ic,D1⟩:=yA Ib (by omega) (k:=[97]) (by decide) f97
 have lc:cH [97] [([97],[vB]),([98],[vA])] = [([98],[vA])]:=by kernel_rfl
 rw [lc] at Ic
 have K:=fun H=>xE db b (by omega) Ib.ok H
 rw [Ib.ks] at K
 have F:=fun H=>sE db b [98] (by omega) Ib.ok H
 rw [Ib.fi,f98] at F
 have F:∀ H,aE X H 15 [pNode b,.d (aJ [98])] (.tuple [.d (encVs [vA]),.d (.bool true)]) []:=F
 have N1:=fun H=>xD db b [97,97] (by omega) Ib.ok H
 rw [sL Ib.ok,Ib.pr,g1] at N1
 have N1:∀ H,aE X H 17 [pNode b,.d (aJ [97,97])] (.tuple [.d (aJ [98]),.d (.bool true)]) []:=N1
 have N2:=fun H=>xD db b [99] (by omega) Ib.ok H
 rw [sL Ib.ok,Ib.pr,g2] at N2
 have N2:∀ H,aE X H 17 [pNode b,.d (aJ [99])] (.tuple [.d (aJ []),.d (.bool false)]) []:=N2
 have D2:=fun H=>is_delM Ic (by omega) (k:=[97]) (by decide) H
 have q3:fJ db b (List.replicate 17 0) [vA]=false:=by unfold fJ;rw [show decide (((List.replicate 17 (0:UInt8)).length:Int)<=16)=false from rfl];simp
 have q4:fJ db b [99] []=false:=by unfold fJ;simp
 have P3:=fun H=>uT Ib.ok (by omega) (by decide) q3 H
 have P4:=fun H=>uT Ib.ok (by omega) (by decide) q4 H
 have M:=fun H=>Ic.many (by omega) H
 have Dp:=fun H=>Ic.flat (by omega) (by decide) H
 have Ck:=fun H=>dH dd c (by omega) Ic.ok H
 rw [Ic.ch] at Ck
 refine callEq_of_bodyF aX false true (mo:=mo12) (by kernel_rfl) Try.func12 rfl ?_
 conv=>whnf
 refine ⟨_,_,(vY 1 _).md _ _,True.intro,?_⟩
 conv=>whnf
 refine ⟨_,_,(P1 _).md _ _,True.intro,?_⟩
 conv=>whnf
 refine cutV_of [.any,.any,.d (.int .i64 0),.ptr 0 0 0,.d (.int .i64 0),.any,.any,.any,.any,.any,.any,.any,.any,.any,.any,.any,.any,.any,.any,.any,.any,.any,.any,.any,.any,.any,.any,.any,.any,.any,.any,.any,.any,.any,.any,.any,.any,.any,.any,.any,.any,.any,.any,.any,.any,.any,.any,.any,.any,.any,.any,.any,.any,.any,.any,.any,.any,.any,.any,.any,.any,.any,.any,.any,.any,.any,.any,.any,.any,.any,.any,.any,.any,.any,.any,.any,.any,.any,.any,.any,.any,.any,.any,.any,.any,.any,.any,.any,.any,.any,.any,.any,.any,.any,.any,.any,.any,.any,.any,.any,.any,.any,.any,.any,.any,.any,.any,.any,.any,.any,.any,.any,.any,.any,.any,.any,.any,.any,.any,.any,.any,.any,.any,.any,.any,.any,.any,.any,.any,.any,.any,.any,.any,.any,.any,.any,.any,.any,.any,.any,.any,.any,.any,.any,.any,.any,.any,.any,.any,.any,.any,.any,.any,.any,.any,.any,.any,.any,.any,.any,.any,.any,.any,.any,.any,.any,.any,.any,.any,.any,.any,.any,.any] [bNode b] ?_ ?_
 . conv=>whnf
   repeat' (first
    | (refine ⟨_,_,(vY 2 _).md _ _,True.intro,?_⟩;conv=>whnf)
    | (refine ⟨_,_,(P2 _).md _ _,True.intro,?_⟩;conv=>whnf)
    | (refine And.intro ?_ ?_ <;> (conv=>whnf))
    | fail)
   all_goals first
    | (refine ⟨[1],And.intro rfl (And.intro ?_ ?_)⟩
       all_goals (repeat' (first | exact True.intro | exact rfl | refine And.intro ?_ ?_))
       done)
    | (refine ⟨[0],And.intro rfl (And.intro ?_ ?_)⟩
       all_goals (repeat' (first | exact True.intro | exact rfl | refine And.intro ?_ ?_))
       done)
 . conv=>whnf
   repeat' (first
    | (refine ⟨_,_,(K _).md _ _,True.intro,?_⟩;conv=>whnf)
    | (refine ⟨_,_,(F _).md _ _,True.intro,?_⟩;conv=>whnf)
    | (refine ⟨_,_,(N1 _).md _ _,True.intro,?_⟩;conv=>whnf)
    | (refine ⟨_,_,(N2 _).md _ _,True.intro,?_⟩;conv=>whnf)
    | (refine ⟨_,_,(D1 _).md _ _,True.intro,?_⟩;conv=>whnf)
    | (refine ⟨_,_,(D2 _).md _ _,True.intro,?_⟩;conv=>whnf)
    | fail)
   refine cutV_of [.any,.any,.d (.int .i64 0),.ptr 0 0 0,.d (.int .i64 0),.d (encKs [[97],[98]]),.d (encVs [vA]),.d (.bool true),.d (aJ [98]),.d (.bool true),.any,.d (.bool false),.ptr 0 1 0,.d (.int .i64 0),.any,.d (.int .i64 61),.any,.d (.int .i64 1),.any,.any,.any,.any,.any,.any,.any,.any,.any,.any,.any,.any,.any,.any,.any,.any,.any,.any,.any,.any,.any,.any,.any,.any,.any,.any,.any,.any,.any,.any,.any,.any,.any,.any,.any,.any,.any,.any,.any,.any,.any,.any,.any,.any,.any,.any,.any,.any,.any,.any,.any,.any,.any,.any,.any,.any,.any,.any,.any,.any,.any,.any,.any,.any,.any,.any,.any,.any,.any,.any,.any,.any,.any,.any,.any,.any,.any,.any,.any,.any,.any,.any,.any,.any,.any,.any,.any,.any,.any,.any,.any,.any,.any,.any,.any,.any,.any,.any,.any,.any,.any,.any,.any,.any,.any,.any,.any,.any,.any,.any,.any,.any,.any,.any,.any,.any,.any,.any,.any,.any,.any,.any,.any,.any,.any,.any,.any,.any,.any,.any,.any,.any,.any,.any,.any,.any,.any,.any,.any,.any,.any,.any,.any,.any,.any,.any,.any,.any,.any,.any,.any,.any,.any,.any,.any] [bNode b,bNode c] ?_ ?_
   . conv=>whnf
     repeat' (first
      | (refine ⟨_,_,(vY 1 _).md _ _,True.intro,?_⟩;conv=>whnf)
      | (refine ⟨_,_,(P3 _).md _ _,True.intro,?_⟩;conv=>whnf)
      | (refine And.intro ?_ ?_ <;> (conv=>whnf))
      | exact Int.NonNeg.mk _
      | (refine ⟨[0,1],And.intro rfl (And.intro ?_ ?_)⟩
         all_goals (repeat' (first | exact True.intro | exact rfl | refine And.intro ?_ ?_))
         done)
      | fail)
   . conv=>whnf
     repeat' (first
      | (exfalso;revert h;decide)
      | exact Bool.noConfusion (show true=false from (beq_self_eq_true _).symm.trans h)
      | (refine And.intro (fun h=>?_) (fun h=>?_) <;> (conv=>whnf))
      | (refine ⟨_,_,(P4 _).md _ _,True.intro,?_⟩;conv=>whnf)
      | (refine ⟨_,_,(M _).md _ _,True.intro,?_⟩;conv=>whnf)
      | (refine ⟨_,_,(Dp _).md _ _,True.intro,?_⟩;conv=>whnf)
      | (refine ⟨_,_,(Ck _).md _ _,True.intro,?_⟩;conv=>whnf)
      | (refine ⟨Int.NonNeg.mk _,[aJ [97]],rfl,rfl,?_⟩;conv=>whnf)
      | (refine ⟨Int.NonNeg.mk _,[aJ [98]],rfl,rfl,?_⟩;conv=>whnf)
      | (refine ⟨Int.NonNeg.mk _,cVer vA,rfl,rfl,?_⟩;conv=>whnf)
      | (refine ⟨[],rfl,?_⟩
         (repeat' (first | exact True.intro | exact rfl | refine And.intro ?_ ?_))
         done)
      | (refine ⟨[97],rfl,?_⟩;conv=>whnf)
      | (refine ⟨[98],rfl,?_⟩;conv=>whnf)
      | fail)
structure Left (L:List KV) (u i d:Nat) (n:Node) (C:List KV):Prop where
 is:Is d n C
 le:d<=5
 len:C.length+i=L.length
 has:∀ j p,L[j]? = some p->(∀ t,t < i->(t+u) % L.length≠j)->p ∈ C
theorem mod_ne {a b u n:Nat} (hab:a < b) (hb:b < n):(a+u) % n≠(b+u) % n:=fun h=>by
 have h1:(b+u) % n=(a+u+(b - a)) % n:=by congr 1;omega
 rw [h1,Nat.add_mod (a+u) (b - a) n,Nat.mod_eq_of_lt (by omega:b - a < n)] at h
 have hr:=Nat.mod_lt (a+u) (by omega:n > 0)
 generalize (a+u) % n=r at *
 rcases aA0 (r+(b - a)) n with hl | hl
 . rw [Nat.mod_eq_of_lt hl] at h;omega
 . rw [Nat.mod_eq_sub_mod hl,Nat.mod_eq_of_lt (by omega)] at h;omega
theorem qC {p:KV}:∀ {L:List KV},bH L->p ∈ L->(cH p.1 L).length+1=L.length
 | [],_,h=>by cases h
 | q::L,hs,h=>by
   obtain ⟨s1,s2⟩:=List.pairwise_cons.1 hs
   rw [lI]
   rcases List.mem_cons.1 h with rfl | h
   . rw [if_pos (dJ _),gX (fun x hx=>by
      have h1:cm p.1 x.1 < 0:=s1 x hx
      have:=dI p.1 x.1
      omega)]
     rfl
   . have h1:cm q.1 p.1 < 0:=s1 p h
     rw [if_neg (by omega),zT,zT,qC s2 h]
theorem Left.step {L:List KV} {u i d:Nat} {n:Node} {C:List KV} {p:KV} (hL:bH L) (h:Left L u i d n C) (hi:i < L.length) (hp:L[(i+u) % L.length]? = some p) :
 p ∈ C/\C.find? (eqP p.1)=some p/\(∀ d' R,d'<=d->Is d' R (cH p.1 C)->Left L u (i+1) d' R (cH p.1 C)):=by
 have hm:=h.has _ p hp fun t ht=>mod_ne ht hi
 refine ⟨hm,xN h.is.so hm,fun d' R hd hR=>⟨hR,aA4 hd h.le,by have:=qC h.is.so hm;have:=h.len;omega,fun j q hq ht=>?_⟩⟩
 have hq2:=h.has j q hq fun t h1=>ht t (by omega)
 refine List.mem_filter.2 ⟨hq2,?_⟩
 have hne:cm q.1 p.1≠0:=fun h0=>by
  have e:=oZ hL (zL hq) (zL hp) ((iL _ _).1 h0)
  subst e
  have hj:=(zJ.1 hq).1
  have hg:=List.pairwise_iff_getElem.1 hL
  have hj2:=(zJ.1 hp).1
  have e1:=(zJ.1 hq).2
  have e2:=(zJ.1 hp).2
  rcases Nat.lt_trichotomy ((i+u) % L.length) j with h1 | h1 | h1
  . have:=hg _ _ hj2 hj h1
    rw [e1,e2,dJ] at this;omega
  . exact ht i (aA1 _) h1
  . have:=hg _ _ hj hj2 h1
    rw [e1,e2,dJ] at this;omega
 simp [hne]
theorem yB (n:Node) (u:Int) (hu:0<=u/\u < 256) (H:List (List Blk)):aE X H 11 [pNode n,.d (.int .u8 u)] (.d (.bool true)) []:=by
 cases hs:dB 5 n with
 | false=>
   have hsm:∀ H,aE X H _ _ _ []:=fun H=>hs ▸ sG n H
   refine callEq_of_body aX rfl Try.func11 rfl ?_
   conv=>whnf
   repeat' (first
    | (exfalso;revert h_;decide)
    | (refine ⟨_,_,oE _,True.intro,?_⟩;conv=>whnf)
    | (refine ⟨_,_,hsm _,True.intro,?_⟩;conv=>whnf)
    | (refine And.intro (fun h_=>?_) (fun h_=>?_) <;> (conv=>whnf))
    | (refine ⟨[0],rfl,?_,True.intro⟩
       (repeat' (first | exact True.intro | exact rfl | refine And.intro ?_ ?_))
       done)
    | (refine ⟨[],rfl,?_,True.intro⟩
       (repeat' (first | exact True.intro | exact rfl | refine And.intro ?_ ?_))
       done)
    | fail)
 | true=>
 have hsm:∀ H,aE X H _ _ _ []:=fun H=>hs ▸ sG n H
 have hn:=mE 5 n hs
 cases hc:aY 5 n with
 | false=>
   have hck:∀ H,aE X H _ _ _ []:=fun H=>hc ▸ dH 5 n (by decide) hn H
   refine callEq_of_body aX rfl Try.func11 rfl ?_
   conv=>whnf
   repeat' (first
    | (exfalso;revert h_;decide)
    | (refine ⟨_,_,oE _,True.intro,?_⟩;conv=>whnf)
    | (refine ⟨_,_,hsm _,True.intro,?_⟩;conv=>whnf)
    | (refine ⟨_,_,hck _,True.intro,?_⟩;conv=>whnf)
    | (refine And.intro (fun h_=>?_) (fun h_=>?_) <;> (conv=>whnf))
    | (refine ⟨[0],rfl,?_,True.intro⟩
       (repeat' (first | exact True.intro | exact rfl | refine And.intro ?_ ?_))
       done)
    | (refine ⟨[],rfl,?_,True.intro⟩
       (repeat' (first | exact True.intro | exact rfl | refine And.intro ?_ ?_))
       done)
    | fail)
 | true=>
 have hck:∀ H,aE X H _ _ _ []:=fun H=>hc ▸ dH 5 n (by decide) hn H
 have hI:Is 5 n (aB 5 n):=⟨hn,hc,rfl⟩
 have hK:=fun H=>xE 5 n (by decide) hn H
 rw [hI.ks] at hK
 generalize aB 5 n=L at hI hK
 have hlen:=hI.len (by decide)
 obtain ⟨u,rfl⟩:∃ v:Nat,u=v:=⟨u.toNat,by omega⟩
 have hL0:Left L u 0 5 n L:=⟨hI,aA3 _,rfl,fun j p hj _=>zL hj⟩
 have wu:IntKind.i64.wrap ((u:Nat):Int)=((u:Nat):Int):=aL (by omega) (by omega)
 have hkl:((L.map (·.1)).map fun k=>[aJ k]).length=L.length:=by rw [zM,zM]
 refine callEq_of_body aX rfl Try.func11 rfl ?_
 conv=>whnf
 repeat' (first
  | (exfalso;revert h_;decide)
  | (refine ⟨_,_,oE _,True.intro,?_⟩;conv=>whnf)
  | (refine ⟨_,_,hsm _,True.intro,?_⟩;conv=>whnf)
  | (refine ⟨_,_,hck _,True.intro,?_⟩;conv=>whnf)
  | (refine ⟨_,_,hK _,True.intro,?_⟩;conv=>whnf)
  | (refine And.intro (fun h_=>?_) (fun h_=>?_) <;> (conv=>whnf))
  | fail)
 refine bG (fun s:(Nat × Nat) × (Node × List KV)=>⟨[.any,.d (.int .u8 u),.ptr 0 0 0,.any,.any,.d (.bool true),.d (encKs (L.map (·.1))),.d (.int .i64 s.1.1),.any,.any,.any,.any,.any,.any,.any,.any,.any,.any,.any,.any,.any,.any,.any,.any,.any,.any,.any,.any,.any,.any,.any,.any,.any,.any,.any,.any,.any,.any,.any,.any,.any,.any,.any,.any,.any,.any,.any,.any,.any,.any,.any,.any,.any,.any,.any,.any,.any,.any,.any,.any,.any,.any,.any,.any,.any,.any,.any,.any,.any,.any],[bNode s.2.1]⟩)
  (fun s=>Left L u s.1.1 s.1.2 s.2.1 s.2.2) (fun s=>L.length - s.1.1) ((0,5),(n,L)) [0] hL0 ?_ ?_
 . refine And.intro rfl (And.intro ?_ ?_)
   all_goals (repeat' (first | exact True.intro | exact rfl | refine And.intro ?_ ?_))
 . rintro ⟨⟨i,d⟩,⟨m,C⟩⟩ hL
   dsimp only at hL ⊢
   have hCl:=hL.len
   have hd:=hL.le
   conv=>whnf
   refine And.intro (fun q=>?_) (fun q=>?_) <;> (conv=>whnf)
   . have hi:i < L.length:=by have:=of_decide_eq_true q;rw [hkl] at this;omega
     have hlt:=Nat.mod_lt (i+u) (by omega:L.length > 0)
     obtain ⟨p,hp⟩:∃ p,L[(i+u) % L.length]? = some p:=⟨_,zK hlt⟩
     obtain ⟨s1,s2,s3⟩:=hL.step hI.so hi hp
     have hpk:=hI.kv p (zL hp)
     obtain ⟨d',R,hd',hR,hD⟩:=yA hL.is (by omega) hpk.1 s2
     have hN:=s3 d' R hd' hR
     have hCR:=hN.len
     have hCn:(cH p.1 C).length+1=C.length:=qC hL.is.so s1
     have hckR:∀ H,aE X H _ _ _ []:=fun H=>hR.ch ▸ dH d' R (by omega) hR.ok H
     have hMR:=fun H=>hR.many (by omega) H
     have hMm:=fun H=>hL.is.many (by omega) H
     have w0:IntKind.i64.wrap (((i:Nat):Int)+((u:Nat):Int))=((i+u:Nat):Int):=by rw [aL (by omega) (by omega)];omega
     have w1:IntKind.i64.wrap (((i:Nat):Int)+1)=((i+1:Nat):Int):=by rw [aL (by omega) (by omega)];omega
     have w2:IntKind.i64.wrap ((C.length:Int) - 1)=(((cH p.1 C).length:Nat):Int):=by rw [aL (by omega) (by omega)];omega
     have w3:(((i+u:Nat):Int)).tmod ((((L.map (·.1)).map fun k=>[aJ k]).length:Nat):Int)=(((i+u) % L.length:Nat):Int):=by rw [hkl,Int.ofNat_tmod]
     have hne:((((L.map (·.1)).map fun k=>[aJ k]).length:Nat):Int)≠0:=by rw [hkl];omega
     have hgx:((L.map (·.1)).map fun k=>[aJ k])[(((i+u) % L.length:Nat):Int).toNat]? = some [aJ p.1]:=by rw [aAx,zN,zN,hp];rfl
     have hge:(0:Int)<=(((i+u) % L.length:Nat):Int):=by omega
     repeat' (first
      | exact absurd ((bne_self_eq_false _).symm.trans h_) (by decide)
      | (exfalso;revert h_;decide)
      | (intro z hz
         conv=>whnf
         first | rw [wu] at hz | rw [w0] at hz | rw [w1] at hz | rw [w2] at hz | rw [w3] at hz
         subst hz)
      | (refine ⟨hne,?_⟩;conv=>whnf)
      | (refine ⟨hge,[aJ p.1],hgx,rfl,?_⟩;conv=>whnf)
      | (refine ⟨_,_,hD _,True.intro,?_⟩;conv=>whnf)
      | (refine ⟨_,_,hckR _,True.intro,?_⟩;conv=>whnf)
      | (refine ⟨_,_,hMR _,True.intro,?_⟩;conv=>whnf)
      | (refine ⟨_,_,hMm _,True.intro,?_⟩;conv=>whnf)
      | (refine And.intro (fun h_=>?_) (fun h_=>?_) <;> (conv=>whnf))
      | (refine ⟨((i+1,d'),(R,cH p.1 C)),[0],hN,(by show L.length - (i+1) < L.length - i;omega),And.intro rfl (And.intro ?_ ?_)⟩
         all_goals (repeat' (first | exact True.intro | exact rfl | refine And.intro ?_ ?_))
         done)
      | fail)
   . have hi:i=L.length:=by have:=of_decide_eq_false q;rw [hkl] at this;omega
     have hC:C = []:=List.eq_nil_of_length_eq_zero (by omega)
     subst hC
     have hMm:=fun H=>hL.is.many (by omega) H
     have hDm:=fun H=>hL.is.flat (by omega) (by decide) H
     repeat' (first
      | (exfalso;revert h_;decide)
      | (refine ⟨_,_,hMm _,True.intro,?_⟩;conv=>whnf)
      | (refine ⟨_,_,hDm _,True.intro,?_⟩;conv=>whnf)
      | (refine And.intro (fun h_=>?_) (fun h_=>?_) <;> (conv=>whnf))
      | (refine ⟨[0],rfl,?_,True.intro⟩
         (repeat' (first | exact True.intro | exact rfl | refine And.intro ?_ ?_))
         done)
      | (refine ⟨[],rfl,?_,True.intro⟩
         (repeat' (first | exact True.intro | exact rfl | refine And.intro ?_ ?_))
         done)
      | fail)
end Go.Proofs.Ve
namespace Go.Proofs.Ytingjgfoihjelaa.treeEmpties
open Go Go.Proofs.Ve Go.ChangeShapes Go.WideShapes Go.ChangeAt Go.RowKit
theorem own:ownKnob Try.prog.godebug=none:=by kernel_rfl
theorem laidOut:laidOutB Try.prog=true:=by kernel_rfl
theorem lifted (os:Os) (started:os.Started) (H:Type) (enc:TypeId × Value->H) :
 ReturnsInHanded {} Try.checked os 11 .any (Rows.treeEmptiesSpec.pre6 enc Try.prog Try.f11 Rows.treeEmptiesRow.domain false) (Rows.treeEmptiesSpec.post enc Try.prog Try.f11 false true false false):=by
 refine returnsInHanded_of_change_sized (C:=Try.checked) own started (by kernel_rfl) Try.func11
  (ChangeSpec.witness6 (enc:=enc) (C:=Try.checked) false ⟨#[],#[.agg #[.slice none 0 0,.slice none 0 0,.slice none 0 0],.int .u8 0],[]⟩ 8 (by kernel_rfl) (by kernel_rfl) (by kernel_rfl) (by kernel_rfl)) ?_
 intro W base args ds gs before hval0 hW hcnd hsz0 _
 have hval:∀ (j:Nat) t v,Try.f11.params[j]? = some t->args[j]? = some v->Value.okWide Try.prog W .any base t v:=hval0
 have hW':=hW
 obtain ⟨p,q,hA0,hV,rfl,hfz,hnd⟩:=hW
 have hA:DataW.TrodAll enc Try.prog W 0 (fun _=>true) true Try.f11.params.toList args.toList ds p:=hA0
 rw [Try.params11] at hA hval
 obtain ⟨v0,vs0,d0,ds0,p0,q0,hargs,rfl,rfl,h0,r0⟩:=trodAll_cons hA
 obtain ⟨v1,vs1,d1,ds1,p1,q1,rfl,rfl,rfl,h1,r1⟩:=trodAll_cons r0
 obtain ⟨rfl,rfl,rfl⟩:=trodAll_nil r1
 obtain rfl:args = #[v0,v1]:=by cases args;simp_all
 obtain ⟨rfl,rfl⟩:=trodVars_none hV
 obtain ⟨x0,rp0⟩:=tree_arg (hval 0 _ v0 rfl rfl) h0
 have lt0:∀ x ∈ p0,x.block < W.heap.size:=by obtain ⟨m,hm⟩:=h0;exact DataW.trod_lt m _ _ _ hm
 obtain ⟨e1,fit1,rp1⟩:=arg_reads 12 (r:=[.int .u8]) (by kernel_rfl) (hval 1 _ v1 rfl rfl) h1
 obtain ⟨x1,hx1,hw1⟩:=fit_int fit1
 have rp1:RP (m0 W) _ v1:=hx1 ▸ rp1
 have lt1:∀ x ∈ p1,x.block < W.heap.size:=by obtain ⟨m,hm⟩:=h1;exact DataW.trod_lt m _ _ _ hm
 have call:Calls Try.prog 11 #[v0,v1] W fun e W'=>e = .returned (.bool true)/\Below W.heap.size W W':=by
  refine aE.calls (yB x0 x1 (wf_u8 hw1) []) rfl ?_
  intro j p v hp hv
  match j with
  | 0=>cases hp;cases hv;exact rp0
  | 1=>cases hp;cases hv;exact rp1
  | j+2=>cases hp
 refine call.mono fun e W' ⟨he,bel⟩=>?_
 subst he
 exact ⟨_,rfl,_,_,_,[],_,[],hW',trodAll_mk1 (shut_bool Try.underlying4 _),(trodAll_cons_mk (Below.trod laidOut (by kernel_rfl) (of_decide_eq_true (by kernel_rfl)) h0 bel lt0) (trodAll_cons_mk (Below.trod laidOut (by kernel_rfl) (of_decide_eq_true (by kernel_rfl)) h1 bel lt1) trodAll_mk0)),rfl,bel.frame _,fun h=>by cases h⟩
theorem over:Rows.treeEmptiesRow.holds Try.pinned (OpenSpec.ofChange Rows.treeEmptiesSpec):=
 OpenClaim.holds_of_wide 11 Try.f11 rfl rfl rfl rfl rfl rfl rfl ⟨rfl,rfl,rfl,rfl,rfl⟩ rfl rfl rfl rfl rfl (by kernel_rfl) Try.func11 (by kernel_rfl)
  (of_decide_eq_true (by kernel_rfl)) (by unfold Func.isWrapper;first | (rw [if_pos (by decide +kernel)];kernel_rfl) | (rw [if_neg (by decide +kernel)];exact ⟨rfl,rfl⟩))
  (fun os started H enc _=>lifted os started H enc)
theorem proved:Rows.TreeEmptiesSaid:=over
#print axioms proved
end Go.Proofs.Ytingjgfoihjelaa.treeEmpties
namespace Go.Proofs.Ytingjgfoihjelaa
theorem treeEmpties_holds:Rows.TreeEmptiesSaid:=treeEmpties.proved
end Go.Proofs.Ytingjgfoihjelaa
