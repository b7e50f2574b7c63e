/- TreeAgain, part 1 of 7. The engine and the contracts that the proof needs. -/
import Derived.Orders
import Derived.Below
import Derived.Laws.Cells
import Derived.Laws.AppendOwn
import Derived.Laws.OwnMore
import Derived.Maps.AppendAt
import Derived.Laws.IdiomCopy
import Derived.Laws.CopyRow
import Derived.KernelRfl
import Derived.Lib.BytesEntry
import Derived.OrdersIn
import Derived.LoopNIn
import Derived.RangeFuncLeaves
import Derived.RangeFuncSeq
import Derived.Laws.World
import Derived.Laws.Entries
import Derived.Laws.IdiomStrings
import Derived.Laws.BytesArg
import Derived.ChangeKeysEq
import Derived.Lib.ConvBytes
set_option maxRecDepth 100000
set_option maxHeartbeats 20000000
set_option linter.all false
open List renaming getElem?_eq_some_iff -> aAe, getElem?_eq_getElem -> aAf, mem_of_getElem? -> aAg, length_map -> aAh, getElem?_map -> aAi, getElem?_append_right -> aAj, getElem?_append_left -> aAk, length_take -> aAl, length_append -> aAm, length_cons -> aAn, length_nil -> aAo, length_set -> aAp, length_drop -> aAq, getElem?_set_self -> aAr, getElem?_set_ne -> aAs, take_of_length_le -> aAt, mem_cons_self -> aAu, mem_cons_of_mem -> aAv, take_length -> aAw, map_map -> aAx, mem_singleton -> aAy, drop_eq_nil_of_le -> aAz, getElem?_take -> aA0, getElem?_drop -> aA1, getD_eq_getElem?_getD -> aA2, pairwise_cons -> aA3, pairwise_append -> aA4, mem_append -> aA5, mem_of_mem_take -> aA6, mem_of_mem_drop -> aA7, mem_flatMap -> aA8, getElem?_cons_zero -> aA9, getElem?_cons_succ -> aBa, append_assoc -> aBb, mem_map -> aBc, all_eq_true -> aBd, mem_range -> aBe, getElem_mem -> aBf, drop_eq_getElem_cons -> aBg, length_replicate -> aBh, getElem?_toArray -> aBx, mem_iff_getElem? -> aB4
open Int renaming toNat_natCast -> aBi
open Nat renaming eq_of_beq_eq_true -> aBj, lt_of_lt_of_le -> aBk, lt_or_ge -> aBl, lt_succ_self -> aBm, zero_le -> aBn, le_refl -> aBo, le_trans -> aBp, le_succ -> aBu, sub_self -> aB2, add_sub_cancel -> aB3
open Option renaming map_eq_some_iff -> aBq, map_some -> aBz, getD_some -> aB0
open Option.some renaming inj -> aBr
open Bool renaming and_eq_true -> aBs, false_ne_true -> aBt, or_eq_true -> aB1
open Array renaming getElem?_toList -> aBv, getElem?_eq_some_iff -> aBw, length_toList -> aBy
namespace Go.Proofs.Ve
open Go
inductive DV where
 | bool (b:Bool)
 | int (k:IntKind) (n:Int)
 | str (s:ByteArray)
 | sl (xs:List (List DV))
 | own (e sz:Nat) (xs:List (List DV))
 | junk
 | val (v:Value)
inductive RD (w:World) (ok:Nat->Prop):DV->Value->Prop
 | bool (b:Bool):RD w ok (.bool b) (.bool b)
 | int (k:IntKind) (n:Int):RD w ok (.int k n) (.int k n)
 | str (s:ByteArray):RD w ok (.str s) (.string s)
 | junk (v:Value) (h:v.oneCell'=true):RD w ok .junk v
 | val (v:Value) (h:v.oneCell'=true):RD w ok (.val v) v
 | sl (sz:Nat) (xs:List (List DV)) (A:Option Addr) (n c:Nat) (ad:Addr) (u:Nat->Value)
    (hn:xs.length=n) (hc:n<=c) (hm:n<=9223372036854775807) (hA:0 < n->A=some ad) (hs:∀ x ∈ xs,x.length=sz)
    (hcell:∀ (i:Nat) x (j:Nat) y,xs[i]? = some x->x[j]? = some y->ok ad.block/\w.cell? (ad.add (i*sz+j))=some (u (i*sz+j)))
    (hr:∀ (i:Nat) x (j:Nat) y,xs[i]? = some x->x[j]? = some y->RD w ok y (u (i*sz+j))) :
    RD w ok (.sl xs) (.slice A n c)
theorem RD.mono {w w':World} {ok ok':Nat->Prop} (h:∀ k,ok k->ok' k/\w'.heap[k]? = w.heap[k]?) {x:DV} {v:Value} (hx:RD w ok x v):RD w' ok' x v:=by
 induction hx with
 | bool b=>exact .bool b
 | int k n=>exact .int k n
 | str s=>exact .str s
 | junk v h=>exact .junk v h
 | val v h=>exact .val v h
 | sl sz xs A n c ad u hn hc hm hA hs hcell hr ih=>
   refine .sl sz xs A n c ad u hn hc hm hA hs (fun i x j y hx hy=>?_) ih
   obtain ⟨h1,h2⟩:=hcell i x j y hx hy
   obtain ⟨h3,h4⟩:=h _ h1
   refine ⟨h3,?_⟩
   rw [World.cell?_of_block (a:=ad.add (i*sz+j)) (w:=w) (w':=w') ?_]
   . exact h2
   . have:(ad.add (i*sz+j)).block=ad.block:=by unfold Addr.add;split <;> rfl
     rw [this];exact h4
theorem RD.one {w:World} {ok:Nat->Prop} {x:DV} {v:Value} (h:RD w ok x v):v.oneCell'=true:=by cases h <;> first | rfl | assumption
mutual
def DV.pl:DV->DV
 | .bool b=>.bool b
 | .int k n=>.int k n
 | .str s=>.str s
 | .sl xs=>.sl xs
 | .own _ _ xs=>.sl (plRows xs)
 | .junk=>.junk
 | .val v=>.val v
def plRows:List (List DV)->List (List DV)
 | []=>[]
 | x::xs=>plRow x::plRows xs
def plRow:List DV->List DV
 | []=>[]
 | y::ys=>y.pl::plRow ys
end
theorem plRow_eq:∀ ys,plRow ys=ys.map DV.pl
 | []=>by simp [plRow]
 | y::ys=>by simp [plRow,plRow_eq ys]
theorem plRows_eq:∀ xs,plRows xs=xs.map fun x=>x.map DV.pl
 | []=>by simp [plRows]
 | x::xs=>by simp [plRows,plRows_eq xs,plRow_eq]
inductive YV where
 | one (x:DV)
 | agg (xs:List DV)
inductive RY (w:World) (ok:Nat->Prop):YV->Value->Prop
 | one (x:DV) (v:Value) (h:RD w ok x v):RY w ok (.one x) v
 | agg (xs:List DV) (vs:Array Value) (h1:xs.length=vs.size) (h2:∀ (j:Nat) x u,xs[j]? = some x->vs[j]? = some u->RD w ok x u):RY w ok (.agg xs) (.agg vs)
structure Abide (w:World) (U V:Nat->Prop) (w':World) (U':Nat->Prop):Prop where
 os:w'.os=w.os
 tape:w'.tape=w.tape
 output:w'.output=w.output
 size:w.heap.size<=w'.heap.size
 iff:∀ k,k < w.heap.size->(U' k↔U k)
 plain:∀ k,k < w.heap.size -> ¬ U k->w'.heap[k]? = w.heap[k]?
 keep:∀ k,V k->w'.heap[k]? = w.heap[k]?
 lt:∀ k,U' k->k < w'.heap.size
structure Yield where
 P:Program
 xs:List (List YV)
 J:Option Nat->(Nat->Prop)->World->(Nat->Prop)->Prop
def Yield.Stab (Y:Yield):Prop:=∀ st V w U w' U',Abide w U V w' U'->(∀ k,V k->U k)->(∀ k,U k->k < w.heap.size)->Y.J st V w U->Y.J st V w' U'
structure YStep (w:World) (U V:Nat->Prop) (w':World) (U' V':Nat->Prop):Prop where
 os:w'.os=w.os
 tape:w'.tape=w.tape
 output:w'.output=w.output
 size:w.heap.size<=w'.heap.size
 iff:∀ k,k < w.heap.size->(U' k↔U k)
 heap:∀ k,k < w.heap.size -> ¬ V k->w'.heap[k]? = w.heap[k]?
 more:∀ k,V k->V' k
 fresh:∀ k,V' k->V k\/w.heap.size<=k
 used:∀ k,V' k->U' k
 lt:∀ k,U' k->k < w'.heap.size
def YieldOk (Y:Yield) (v:Value):Prop:=
 Y.Stab /\ ∃ L,v = .func (.yield L) #[] #[] /\ ∀ (k:Nat) (x:List YV) (V U:Nat->Prop) (w:World) (vs:Array Value),Y.xs[k]? = some x->Y.J (some k) V w U->(∀ k,V k->U k)->(∀ k,U k->k < w.heap.size) ->
  x.length=vs.size->(∀ (j:Nat) y u,x[j]? = some y->vs[j]? = some u->RY w (fun k=>k < w.heap.size /\ ¬ U k) y u) ->
  YieldAt Fence.wide 0 Y.P L vs w fun e w'=>∃ (b:Bool) (U' V':Nat->Prop),e = .returned (.bool b)/\YStep w U V w' U' V'/\Y.J (bif b then some (k+1) else none) V' w' U'
inductive PV where
 | any
 | kb (b:Bool)
 | ub
 | d (x:DV)
 | nils
 | emp
 | row (l i n:Nat)
 | ptr (l i o:Nat)
 | rptr (l i sz e j:Nat)
 | iptr (cs:List DV)
 | func (fn:Fn) (first caps:List PV)
 | agg (cs:List PV)
 | tuple (cs:List PV)
 | yld (Y:Yield)
 | lits (xs:List (List PV))
inductive Blk where
 | dead
 | box (cs:List PV)
 | row (e sz:Nat) (xs:List (List DV))
 | gen (Y:Yield) (st:Option Nat)
 | deep (e sz:Nat) (xs:List (List DV))
 | sub (p e c:Nat)
def Blk.live:Blk->Bool
 | .dead=>false
 | .gen _ _=>false
 | .sub _ _ _=>false
 | _=>true
def getB (top:List Blk) (H:List (List Blk)):Nat->Nat->Option Blk
 | 0,i=>top[i]?
 | l+1,i=>(H[l]?).bind (·[i]?)
structure M where
 w:World
 ρ:Nat->Nat->Option Value
 U:Nat->Prop
def M.ok (m:M) (k:Nat):Prop:=k < m.w.heap.size /\ ¬ m.U k
def blkOf:Value->Option Nat
 | .pointer (some a)=>some a.block
 | .slice (some a) _ _=>some a.block
 | _=>none
inductive RP (m:M):PV->Value->Prop
 | any (v:Value):RP m .any v
 | kb (b:Bool):RP m (.kb b) (.bool b)
 | ub (b:Bool):RP m .ub (.bool b)
 | d (x:DV) (v:Value) (h:RD m.w m.ok x v):RP m (.d x) v
 | nils:RP m .nils (.slice none 0 0)
 | emp (ad:Addr):RP m .emp (.slice (some ad) 0 0)
 | row (l i n N c:Nat) (A:Option Addr) (h:m.ρ l i=some (.slice A N c)) (hn:n<=N) (hc:N<=c):RP m (.row l i n) (.slice A n c)
 | ptr (l i o g:Nat) (h:m.ρ l i=some (.pointer (some ⟨g,0,none⟩))):RP m (.ptr l i o) (.pointer (some ⟨g,o,none⟩))
 | rptr (l i sz e j g N c:Nat) (h:m.ρ l i=some (.slice (some ⟨g,0,none⟩) N c)):RP m (.rptr l i sz e j) (.pointer (some ⟨g,e*sz+j,none⟩))
 | iptr (cs:List DV) (ad:Addr) (u:Nat->Value) (hc:∀ (j:Nat) y,cs[j]? = some y->m.ok ad.block/\m.w.cell? (ad.add j)=some (u j))
    (hr:∀ (j:Nat) y,cs[j]? = some y->RD m.w m.ok y (u j)):RP m (.iptr cs) (.pointer (some ad))
 | func (fn:Fn) (fs cs:List PV) (fv cv:Array Value) (h1:fs.length=fv.size) (h2:cs.length=cv.size)
    (h3:∀ (j:Nat) p v,fs[j]? = some p->fv[j]? = some v->RP m p v) (h4:∀ (j:Nat) p v,cs[j]? = some p->cv[j]? = some v->RP m p v):RP m (.func fn fs cs) (.func fn fv cv)
 | agg (cs:List PV) (vs:Array Value) (h1:cs.length=vs.size) (h2:∀ (j:Nat) p v,cs[j]? = some p->vs[j]? = some v->RP m p v):RP m (.agg cs) (.agg vs)
 | tuple (cs:List PV) (vs:Array Value) (h1:cs.length=vs.size) (h2:∀ (j:Nat) p v,cs[j]? = some p->vs[j]? = some v->RP m p v):RP m (.tuple cs) (.tuple vs)
 | yld (Y:Yield) (v:Value) (h:YieldOk Y v):RP m (.yld Y) v
 | lits (sz:Nat) (xs:List (List PV)) (ad:Addr) (u:Nat->Value) (h0:0 < xs.length) (hm:xs.length<=9223372036854775807) (hs:∀ x ∈ xs,x.length=sz)
    (hcell:∀ (i:Nat) x (j:Nat) y,xs[i]? = some x->x[j]? = some y->m.ok ad.block/\m.w.cell? (ad.add (i*sz+j))=some (u (i*sz+j)))
    (hr:∀ (i:Nat) x (j:Nat) y,xs[i]? = some x->x[j]? = some y->RP m y (u (i*sz+j))):RP m (.lits xs) (.slice (some ad) xs.length xs.length)
def PV.cell:PV->Bool
 | .any | .agg _ | .tuple _=>false
 | _=>true
theorem RP.one {m:M} {p:PV} {v:Value} (h:RP m p v) (hp:p.cell=true):v.oneCell'=true:=by
 cases h <;> first | rfl | (simp [PV.cell] at hp;done) | (rename_i h;exact h.one) | (rename_i h;obtain ⟨_,L,rfl,_⟩:=h;rfl)
def PV.inv:PV->Bool
 | .kb _ | .ub | .d _ | .nils | .emp | .iptr _ | .yld _=>true
 | _=>false
theorem RP.other {m m':M} (hw:m'.w=m.w) (hU:∀ k,m'.U k->m.U k) {p:PV} {v:Value} (hp:p.inv=true) (h:RP m p v):RP m' p v:=by
 have hk:∀ k,m.ok k->m'.ok k/\m'.w.heap[k]? = m.w.heap[k]?:=fun k hk=>⟨⟨by rw [hw];exact hk.1,fun hu=>hk.2 (hU k hu)⟩,by rw [hw]⟩
 cases h <;> try (simp [PV.inv] at hp;done)
 . exact .kb _
 . exact .ub _
 . rename_i h;exact .d _ _ (h.mono hk)
 . exact .nils
 . exact .emp _
 . rename_i cs ad u hc hr
   refine .iptr cs ad u (fun j y hy=>?_) (fun j y hy=>(hr j y hy).mono hk)
   obtain ⟨h1,h2⟩:=hc j y hy
   exact ⟨(hk _ h1).1,by rw [hw];exact h2⟩
 . rename_i h;exact .yld _ _ h
structure Keep (m m':M):Prop where
 ρ:∀ l i v,m.ρ l i=some v->m'.ρ l i=some v
 size:m.w.heap.size<=m'.w.heap.size
 plain:∀ k,m.ok k -> ¬ m'.U k/\m'.w.heap[k]? = m.w.heap[k]?
theorem Keep.ok {m m':M} (h:Keep m m') (k:Nat) (hk:m.ok k):m'.ok k/\m'.w.heap[k]? = m.w.heap[k]?:=
 ⟨⟨aBk hk.1 h.size,(h.plain k hk).1⟩,(h.plain k hk).2⟩
theorem Keep.refl (m:M):Keep m m:=⟨fun _ _ _ h=>h,aBo _,fun k h=>⟨h.2,rfl⟩⟩
theorem Keep.trans {m m' m'':M} (h:Keep m m') (k:Keep m' m''):Keep m m'':=
 ⟨fun l i v e=>k.ρ l i v (h.ρ l i v e),aBp h.size k.size,fun j hj=>⟨(k.plain j (h.ok j hj).1).1,(k.plain j (h.ok j hj).1).2.trans (h.plain j hj).2⟩⟩
theorem RD.keep {m m':M} (h:Keep m m') {x:DV} {v:Value} (hx:RD m.w m.ok x v):RD m'.w m'.ok x v:=hx.mono h.ok
theorem RP.keep {m m':M} (h:Keep m m') {p:PV} {v:Value} (hp:RP m p v):RP m' p v:=by
 induction hp with
 | any v=>exact .any v
 | kb b=>exact .kb b
 | ub b=>exact .ub b
 | d x v hx=>exact .d x v (hx.keep h)
 | nils=>exact .nils
 | emp ad=>exact .emp ad
 | row l i n N c A hl hn hc=>exact .row l i n N c A (h.ρ _ _ _ hl) hn hc
 | ptr l i o g hl=>exact .ptr l i o g (h.ρ _ _ _ hl)
 | rptr l i sz e j g N c hl=>exact .rptr l i sz e j g N c (h.ρ _ _ _ hl)
 | iptr cs ad u hc hr=>
   refine .iptr cs ad u (fun j y hy=>?_) (fun j y hy=>(hr j y hy).keep h)
   obtain ⟨h1,h2⟩:=hc j y hy
   obtain ⟨h3,h4⟩:=h.ok _ h1
   refine ⟨h3,?_⟩
   rw [World.cell?_of_block (a:=ad.add j) (w:=m.w) (w':=m'.w) ?_]
   . exact h2
   . have:(ad.add j).block=ad.block:=by unfold Addr.add;split <;> rfl
     rw [this];exact h4
 | func fn fs cs fv cv h1 h2 h3 h4 ih1 ih2=>exact .func fn fs cs fv cv h1 h2 ih1 ih2
 | agg cs vs h1 h2 ih=>exact .agg cs vs h1 ih
 | tuple cs vs h1 h2 ih=>exact .tuple cs vs h1 ih
 | yld Y v h=>exact .yld Y v h
 | lits sz xs ad u h0 hm hs hcell hr ih=>
   refine .lits sz xs ad u h0 hm hs (fun i x j y hx hy=>?_) ih
   obtain ⟨h1,h2⟩:=hcell i x j y hx hy
   obtain ⟨h3,h4⟩:=h.ok _ h1
   refine ⟨h3,?_⟩
   rw [World.cell?_of_block (a:=ad.add (i*sz+j)) (w:=m.w) (w':=m'.w) ?_]
   . exact h2
   . have:(ad.add (i*sz+j)).block=ad.block:=by unfold Addr.add;split <;> rfl
     rw [this];exact h4
theorem ownsRow_same {w w':World} {base e size n:Nat} {v:Value} {xs:List Value} (h:w.ownsRow base e size v n xs) (hh:∀ k,blkOf v=some k->w'.heap[k]? = w.heap[k]?):w'.ownsRow base e size v n xs:=by
 obtain ⟨h1,h2⟩:=h
 refine ⟨h1,?_⟩
 rcases h2 with h2 | ⟨g,cap,cur,rfl,hb,hg,r⟩
 . exact .inl h2
 . exact .inr ⟨g,cap,cur,rfl,hb,(hh g rfl).trans hg,r⟩
inductive Ins (w:World):DV->Value->Nat->Prop
 | head (e sz:Nat) (xs:List (List DV)) (v:Value) (k:Nat) (h:blkOf v=some k):Ins w (.own e sz xs) v k
 | cell (e sz:Nat) (xs:List (List DV)) (v:Value) (k:Nat) (flat:List Value) (i:Nat) (x:List DV) (j:Nat) (y:DV) (u:Value) (ho:w.ownsRow 0 e sz v xs.length flat) (hx:xs[i]? = some x) (hy:x[j]? = some y)
    (hu:flat[i*sz+j]? = some u) (h:Ins w y u k):Ins w (.own e sz xs) v k
inductive RO (w:World) (ok:Nat->Prop):DV->Value->Prop
 | plain (x:DV) (v:Value) (h:RD w ok x v):RO w ok x v
 | own (e sz:Nat) (xs:List (List DV)) (v:Value) (flat:List Value) (h0:0 < sz) (hs:∀ x ∈ xs,x.length=sz) (ho:w.ownsRow 0 e sz v xs.length flat)
    (hr:∀ (i:Nat) x (j:Nat) y u,xs[i]? = some x->x[j]? = some y->flat[i*sz+j]? = some u->RO w ok y u)
    (head:∀ (i:Nat) x (j:Nat) y u k,xs[i]? = some x->x[j]? = some y->flat[i*sz+j]? = some u->Ins w y u k->blkOf v≠some k)
    (sep:∀ (i:Nat) x (j:Nat) y u (i':Nat) x' (j':Nat) y' u' k,xs[i]? = some x->x[j]? = some y->flat[i*sz+j]? = some u->xs[i']? = some x'->x'[j']? = some y'->flat[i'*sz+j']? = some u'->Ins w y u k->Ins w y' u' k->i=i'/\j=j') :
    RO w ok (.own e sz xs) v
theorem Ins.back {w w':World} {x:DV} {v:Value} {k:Nat} (h:Ins w' x v k):(∀ k,Ins w x v k->w'.heap[k]? = w.heap[k]?)->Ins w x v k:=by
 induction h with
 | head e sz xs v k h=>exact fun _=>.head e sz xs v k h
 | cell e sz xs v k flat i x j y u ho hx hy hu _ ih=>
   intro hh
   have ho':w.ownsRow 0 e sz v xs.length flat:=ownsRow_same ho (fun k hk=>(hh k (.head _ _ _ _ _ hk)).symm)
   exact .cell e sz xs v k flat i x j y u ho' hx hy hu (ih fun k hk=>hh k (.cell _ _ _ _ _ flat i x j y u ho' hx hy hu hk))
theorem Ins.fwd {w w':World} {x:DV} {v:Value} {k:Nat} (h:Ins w x v k):(∀ k,Ins w x v k->w'.heap[k]? = w.heap[k]?)->Ins w' x v k:=by
 induction h with
 | head e sz xs v k h=>exact fun _=>.head e sz xs v k h
 | cell e sz xs v k flat i x j y u ho hx hy hu _ ih=>
   intro hh
   have ho':w'.ownsRow 0 e sz v xs.length flat:=ownsRow_same ho (fun k hk=>hh k (.head _ _ _ _ _ hk))
   exact .cell e sz xs v k flat i x j y u ho' hx hy hu (ih fun k hk=>hh k (.cell _ _ _ _ _ flat i x j y u ho hx hy hu hk))
theorem RO.move {w w':World} {ok ok':Nat->Prop} (h:∀ x v,RD w ok x v->RD w' ok' x v) {x:DV} {v:Value} (hx:RO w ok x v):(∀ k,Ins w x v k->w'.heap[k]? = w.heap[k]?)->RO w' ok' x v:=by
 induction hx with
 | plain x v hx=>exact fun _=>.plain x v (h x v hx)
 | own e sz xs v flat h0 hs ho hr head sep ih=>
   intro hh
   have sub:∀ (i:Nat) x (j:Nat) y u,xs[i]? = some x->x[j]? = some y->flat[i*sz+j]? = some u -> ∀ k,Ins w y u k->w'.heap[k]? = w.heap[k]?:=fun i x j y u hx hy hu k hk=>hh k (.cell _ _ _ _ _ flat i x j y u ho hx hy hu hk)
   exact .own e sz xs v flat h0 hs (ownsRow_same ho fun k hk=>hh k (.head _ _ _ _ _ hk)) (fun i x j y u hx hy hu=>ih i x j y u hx hy hu (sub i x j y u hx hy hu))
    (fun i x j y u k hx hy hu hk=>head i x j y u k hx hy hu (hk.back (sub i x j y u hx hy hu)))
    (fun i x j y u i' x' j' y' u' k hx hy hu hx' hy' hu' hk hk'=>sep i x j y u i' x' j' y' u' k hx hy hu hx' hy' hu' (hk.back (sub i x j y u hx hy hu)) (hk'.back (sub i' x' j' y' u' hx' hy' hu')))
theorem RO.mono {w w':World} {ok ok':Nat->Prop} (h:∀ k,ok k->ok' k/\w'.heap[k]? = w.heap[k]?) {x:DV} {v:Value} (hx:RO w ok x v) (hh:∀ k,Ins w x v k->w'.heap[k]? = w.heap[k]?):RO w' ok' x v:=hx.move (fun _ _ hx=>hx.mono h) hh
def Blk.has (w:World) (b:Blk) (v:Value) (k:Nat):Prop:=
 match b with
 | .deep e sz xs=>Ins w (.own e sz xs) v k
 | .sub _ _ _=>False
 | _=>blkOf v=some k
theorem Blk.has_back {w w':World} {b:Blk} {v:Value} {k:Nat} (h:b.has w' v k) (hh:∀ k,b.has w v k->w'.heap[k]? = w.heap[k]?):b.has w v k:=by
 cases b with
 | deep e sz xs=>exact Ins.back h hh
 | _=>exact h
theorem Blk.has_fwd {w w':World} {b:Blk} {v:Value} {k:Nat} (h:b.has w v k) (hh:∀ k,b.has w v k->w'.heap[k]? = w.heap[k]?):b.has w' v k:=by
 cases b with
 | deep e sz xs=>exact Ins.fwd h hh
 | _=>exact h
def Blk.isSub:Blk->Bool
 | .sub _ _ _=>true
 | _=>false
theorem Blk.isSub_has {w:World} {b:Blk} {v:Value} {k:Nat} (h:b.isSub=true):¬ b.has w v k:=fun hk=>by cases b <;> first | exact hk | cases h
def Blk.vd:Blk->Bool
 | .sub _ _ _=>true
 | .deep _ _ _=>true
 | _=>false
theorem Blk.has_shal {w:World} {b:Blk} {v:Value} {k:Nat} (h:b.vd=false):b.has w v k↔blkOf v=some k:=by
 cases b <;> first | exact Iff.rfl | cases h
theorem Blk.has_head {w:World} {b:Blk} {v:Value} {k:Nat} (h:blkOf v=some k) (hl:b.live=true:=by rfl):b.has w v k:=by
 cases b with
 | deep e sz xs=>exact .head _ _ _ _ _ h
 | sub _ _ _=>cases hl
 | _=>exact h
def M.up (m:M) (l:Nat):M:=⟨m.w,fun j i=>m.ρ (j+l) i,m.U⟩
theorem Keep.up {m m':M} (h:Keep m m') (l:Nat):Keep (m.up l) (m'.up l):=⟨fun j i v e=>h.ρ (j+l) i v e,h.size,h.plain⟩
def BlkOk (m:M) (l i:Nat):Blk->Prop
 | .dead=>True
 | .gen _ _=>True
 | .sub _ _ _=>True
 | .box cs=>∀ v,m.ρ l i=some v -> ∃ g vs e,v = .pointer (some ⟨g,0,none⟩)/\m.w.heap[g]? = some (.cells vs e (0,0))/\vs.size=cs.length /\ ∀ (j:Nat) p u,cs[j]? = some p->vs[j]? = some u->RP (m.up l) p u
 | .row e sz xs=>∀ v,m.ρ l i=some v->0 < sz/\(∀ x ∈ xs,x.length=sz) /\ ∃ flat,m.w.ownsRow 0 e sz v xs.length flat /\
    ∀ (i:Nat) x (j:Nat) y u,xs[i]? = some x->x[j]? = some y->flat[i*sz+j]? = some u->RD m.w m.ok y u
 | .deep e sz xs=>∀ v,m.ρ l i=some v->RO m.w m.ok (.own e sz xs) v
def Views (m:M) (top:List Blk):Prop:=
 ∀ (i p e c:Nat) (v:Value),top[i]? = some (.sub p e c)->m.ρ 0 i=some v->p < i /\ ∃ V,m.ρ 0 p=some V /\
   ∀ (et sz:Nat) (xs:List (List DV)) (x:List DV) (e2 sz2:Nat) (ys:List (List DV)) (flat:List Value),top[p]? = some (.deep et sz xs)->xs[e]? = some x->x[c]? = some (.own e2 sz2 ys) ->
     m.w.ownsRow 0 et sz V xs.length flat->flat[e*sz+c]? = some v
theorem Views.of {m m':M} {top top':List Blk} (h:Views m top) (hsub:∀ (i p e c:Nat) v,top'[i]? = some (.sub p e c)->m'.ρ 0 i=some v->top[i]? = some (.sub p e c)/\m.ρ 0 i=some v)
 (hkeep:∀ (p:Nat) V,m.ρ 0 p=some V->m'.ρ 0 p=some V)
 (hdeep:∀ (p et sz:Nat) xs V,top'[p]? = some (.deep et sz xs)->m.ρ 0 p=some V->top[p]? = some (.deep et sz xs) /\ ∀ k,blkOf V=some k->m'.w.heap[k]? = m.w.heap[k]?):Views m' top':=by
 intro i p e c v h1 h2
 obtain ⟨a1,a2⟩:=hsub i p e c v h1 h2
 obtain ⟨hp,V,hV,hh⟩:=h i p e c v a1 a2
 refine ⟨hp,V,hkeep p V hV,fun et sz xs x e2 sz2 ys flat h3 h4 h5 h6=>?_⟩
 obtain ⟨b1,b2⟩:=hdeep p et sz xs V h3 hV
 exact hh et sz xs x e2 sz2 ys flat b1 h4 h5 (ownsRow_same h6 fun k hk=>(b2 k hk).symm)
theorem Views.none {m:M} {top:List Blk} (h:∀ (i p e c:Nat),top[i]? ≠ some (.sub p e c)):Views m top:=fun i p e c _ h1=>absurd h1 (h i p e c)
structure Inv (m:M) (top:List Blk) (H:List (List Blk)):Prop where
 blk:∀ l i b,getB top H l i=some b->BlkOk m l i b
 inj:∀ l i b l' i' b' v v' k,getB top H l i=some b->b.live=true->getB top H l' i'=some b'->b'.live=true->m.ρ l i=some v->m.ρ l' i'=some v' ->
  b.has m.w v k->b'.has m.w v' k->l=l'/\i=i'
 own:∀ l i b v k,getB top H l i=some b->b.live=true->m.ρ l i=some v->b.has m.w v k->m.U k
 lt:∀ k,m.U k->k < m.w.heap.size
 sub:Views m top
theorem Inv.back {m:M} {top:List Blk} {H:List (List Blk)} (hi:Inv m top H) {l i:Nat} {b:Blk} (hb:getB top H l i=some b) (hl:b.live=true) {v:Value} (hv:m.ρ l i=some v) {w':World} (hh:∀ k,m.U k->b.has m.w v k->w'.heap[k]? = m.w.heap[k]?) {k:Nat} (h:b.has w' v k):b.has m.w v k:=
 Blk.has_back h fun j hj=>hh j (hi.own l i b v j hb hl hv hj) hj
theorem Inv.fwd {m:M} {top:List Blk} {H:List (List Blk)} (hi:Inv m top H) {l i:Nat} {b:Blk} (hb:getB top H l i=some b) (hl:b.live=true) {v:Value} (hv:m.ρ l i=some v) {w':World} (hh:∀ k,m.U k->b.has m.w v k->w'.heap[k]? = m.w.heap[k]?) {k:Nat} (h:b.has m.w v k):b.has w' v k:=
 Blk.has_fwd h fun j hj=>hh j (hi.own l i b v j hb hl hv hj) hj
theorem ownsRow_inj {w:World} {base e e' sz n:Nat} {v:Value} {xs ys:List Value} (h:w.ownsRow base e sz v n xs) (h':w.ownsRow base e' sz v n ys):xs=ys:=by
 obtain ⟨h1,h2⟩:=h
 obtain ⟨h1',h2'⟩:=h'
 rcases h2 with ⟨rfl,h0⟩ | ⟨g,cap,cur,rfl,_,hg,_,_,_,ht⟩
 . subst h0
   rw [Nat.zero_mul] at h1 h1'
   rw [List.eq_nil_of_length_eq_zero h1,List.eq_nil_of_length_eq_zero h1']
 . rcases h2' with ⟨h,_⟩ | ⟨g',cap',cur',h,_,hg',_,_,_,ht'⟩
   . cases h
   . simp only [Value.slice.injEq,Option.some.injEq,Addr.mk.injEq] at h
     obtain ⟨⟨rfl,_⟩,_⟩:=h
     rw [hg] at hg'
     simp only [Option.some.injEq,Obj.cells.injEq] at hg'
     obtain ⟨rfl,_⟩:=hg'
     rw [<- ht,<- ht']
theorem Ins.cells {w:World} {ok:Nat->Prop} {x:DV} {v:Value} {k:Nat} (h:Ins w x v k):RO w ok x v -> ∃ cs e fz,w.heap[k]? = some (.cells cs e fz):=by
 induction h with
 | head e sz xs v k h=>
   intro hr
   cases hr with
   | plain _ _ h=>cases h
   | own _ _ _ _ flat h0 hs ho=>
     rcases ho.2 with ⟨rfl,_⟩ | ⟨g,cap,cur,rfl,_,hg,_⟩
     . cases h
     . cases h;exact ⟨_,_,_,hg⟩
 | cell e sz xs v k flat i x j y u ho hx hy hu _ ih=>
   intro hr
   cases hr with
   | plain _ _ h=>cases h
   | own _ _ _ _ flat' h0 hs ho' hr=>
     rw [ownsRow_inj ho ho'] at hu
     exact ih (hr i x j y u hx hy hu)
theorem Inv.cells {m:M} {top:List Blk} {H:List (List Blk)} (hi:Inv m top H) {l i:Nat} {b:Blk} (hb:getB top H l i=some b) (hl:b.live=true) {v:Value} (hv:m.ρ l i=some v) {k:Nat} (h:b.has m.w v k):∃ cs e fz,m.w.heap[k]? = some (.cells cs e fz):=by
 have hk:=hi.blk l i b hb
 cases b with
 | dead=>cases hl
 | gen Y st=>cases hl
 | sub p e c=>cases hl
 | box cs=>
   obtain ⟨g,vs,e,rfl,hg,_⟩:=hk v hv
   cases h;exact ⟨_,_,_,hg⟩
 | row e sz xs=>
   obtain ⟨_,_,flat,ho,_⟩:=hk v hv
   rcases ho.2 with ⟨rfl,_⟩ | ⟨g,cap,cur,rfl,_,hg,_⟩
   . cases h
   . cases h;exact ⟨_,_,_,hg⟩
 | deep e sz xs=>exact Ins.cells h (hk v hv)
structure Grow (m m':M):Prop where
 os:m'.w.os=m.w.os
 tape:m'.w.tape=m.w.tape
 output:m'.w.output=m.w.output
 size:m.w.heap.size<=m'.w.heap.size
 heap:∀ k,k < m.w.heap.size->m'.w.heap[k]? = m.w.heap[k]?
 ρ:∀ l i v,m.ρ l i=some v->m'.ρ l i=some v
 U:∀ k,k < m.w.heap.size->(m'.U k↔m.U k)
theorem Grow.refl (m:M):Grow m m:=⟨rfl,rfl,rfl,aBo _,fun _ _=>rfl,fun _ _ _ h=>h,fun _ _=>Iff.rfl⟩
theorem Grow.trans {m m' m'':M} (h:Grow m m') (k:Grow m' m''):Grow m m'':=
 ⟨k.os.trans h.os,k.tape.trans h.tape,k.output.trans h.output,aBp h.size k.size,
  fun j hj=>(k.heap j (aBk hj h.size)).trans (h.heap j hj),fun l i v e=>k.ρ l i v (h.ρ l i v e),
  fun j hj=>(k.U j (aBk hj h.size)).trans (h.U j hj)⟩
theorem Grow.keep {m m':M} (h:Grow m m'):Keep m m':=⟨h.ρ,h.size,fun k hk=>⟨fun hu=>hk.2 ((h.U k hk.1).1 hu),h.heap k hk.1⟩⟩
theorem BlkOk.keep {m m':M} (h:Keep m m') {l i:Nat} {b:Blk} (hρ:m'.ρ l i=m.ρ l i) (hh:∀ v k,b.live=true->m.ρ l i=some v->b.has m.w v k->m'.w.heap[k]? = m.w.heap[k]?) (hb:BlkOk m l i b):BlkOk m' l i b:=by
 cases b with
 | dead=>trivial
 | gen Y st=>trivial
 | sub p e c=>trivial
 | box cs=>
   intro v hv
   rw [hρ] at hv
   obtain ⟨g,vs,e,rfl,hg,hs,hc⟩:=hb v hv
   exact ⟨g,vs,e,rfl,(hh _ g rfl hv rfl).trans hg,hs,fun j p u hj hu=>(hc j p u hj hu).keep (h.up l)⟩
 | row e sz xs=>
   intro v hv
   rw [hρ] at hv
   obtain ⟨h0,h1,flat,ho,hc⟩:=hb v hv
   exact ⟨h0,h1,flat,ownsRow_same ho (fun k hk=>hh v k rfl hv hk),fun i x j y u hx hy hu=>(hc i x j y u hx hy hu).keep h⟩
 | deep e sz xs=>
   intro v hv
   rw [hρ] at hv
   exact (hb v hv).mono h.ok (fun k hk=>hh v k rfl hv hk)
theorem Inv.grow {m m':M} {top:List Blk} {H:List (List Blk)} (hi:Inv m top H) (hg:Grow m m') {l i:Nat} {b:Blk} (hb:getB top H l i=some b) (hl:b.live=true) {v:Value} (hv:m.ρ l i=some v) {k:Nat} (h:b.has m'.w v k):b.has m.w v k:=
 hi.back hb hl hv (fun k hk _=>hg.heap k (hi.lt k hk)) h
theorem Inv.views {m m':M} {top top':List Blk} {H:List (List Blk)} (hi:Inv m top H) (hg:Grow m m') (hsub:∀ (i p e c:Nat) v,top'[i]? = some (.sub p e c)->m'.ρ 0 i=some v->top[i]? = some (.sub p e c)/\m.ρ 0 i=some v)
 (hdeep:∀ (p et sz:Nat) xs V,top'[p]? = some (.deep et sz xs)->m.ρ 0 p=some V->top[p]? = some (.deep et sz xs)):Views m' top':=
 hi.sub.of hsub (fun p V hV=>hg.ρ 0 p V hV) (fun p et sz xs V h2 h3=>⟨hdeep p et sz xs V h2 h3,fun k h4=>hg.heap k (hi.lt k (hi.own 0 p _ V k (hdeep p et sz xs V h2 h3) rfl h3 (Blk.has_head h4)))⟩)
theorem Inv.of_grow {m m':M} {top:List Blk} {H:List (List Blk)} (hi:Inv m top H) (hg:Grow m m') (hρ:m'.ρ=m.ρ) (hU:m'.U=m.U):Inv m' top H:=
 ⟨fun l j b hb=>(hi.blk l j b hb).keep hg.keep (by rw [hρ]) (fun v k hl hv hk=>hg.heap k (hi.lt k (hi.own l j b v k hb hl hv hk))),
  fun l i b l' i' b' v v' k h1 h2 h3 h4 h5 h6 h7 h8=>hi.inj l i b l' i' b' v v' k h1 h2 h3 h4 (by rw [<- hρ];exact h5) (by rw [<- hρ];exact h6) (hi.grow hg h1 h2 (by rw [<- hρ];exact h5) h7) (hi.grow hg h3 h4 (by rw [<- hρ];exact h6) h8),
  fun l i b v k h1 h2 h3 h4=>by rw [hU];exact hi.own l i b v k h1 h2 (by rw [<- hρ];exact h3) (hi.grow hg h1 h2 (by rw [<- hρ];exact h3) h4),
  fun k hk=>aBk (hi.lt k (by rw [<- hU];exact hk)) hg.size,
  hi.sub.of (fun i p e c v hb hv=>⟨hb,by rw [<- hρ];exact hv⟩) (fun p V hV=>hg.ρ 0 p V hV) (fun p et sz xs V h2 h3=>⟨h2,fun k h4=>hg.heap k (hi.lt k (hi.own 0 p _ V k h2 rfl h3 (Blk.has_head h4)))⟩)⟩
theorem RD.not_own {w:World} {ok:Nat->Prop} {x:DV} {v:Value} (h:RD w ok x v):∀ k,¬ Ins w x v k:=fun k hk=>by cases h <;> cases hk
theorem RD.pl {w:World} {ok:Nat->Prop} {x:DV} {v:Value} (h:RD w ok x v):x.pl=x:=by cases h <;> rfl
theorem rd_owns {w:World} {ok:Nat->Prop} {e sz:Nat} {v:Value} {xs:List (List DV)} {flat:List Value} (hs:∀ x ∈ xs,x.length=sz) (ho:w.ownsRow 0 e sz v xs.length flat) (hok:∀ k,blkOf v=some k->ok k)
 (hr:∀ (i:Nat) x (j:Nat) y u,xs[i]? = some x->x[j]? = some y->flat[i*sz+j]? = some u->RD w ok y u):RD w ok (.sl xs) v:=by
 have hfl:flat.length=xs.length*sz:=ho.1
 rcases ho.2 with ⟨rfl,h0⟩ | ⟨g,cap,cur,rfl,_,_,h1,h2,_⟩
 . obtain rfl:=List.eq_nil_of_length_eq_zero h0
   exact .sl sz [] none 0 0 default (fun _=>undef) rfl (aBo _) (by omega) (by omega) (by simp) (fun a x j y hx=>by simp at hx) (fun a x j y hx=>by simp at hx)
 . unfold maxLen at h2
   refine .sl sz xs (some ⟨g,0,none⟩) xs.length cap ⟨g,0,none⟩ (fun k=>flat.getD k undef) rfl h1 (by omega) (fun _=>rfl) hs (fun a x j y hx hy=>?_) (fun a x j y hx hy=>?_)
   all_goals
    have hal:a < xs.length:=(aAe.1 hx).1
    have hjl:j < sz:=by rw [<- hs x (aAg hx)];exact (aAe.1 hy).1
    have hlt:a*sz+j < flat.length:=by
     rw [hfl]
     have:a*sz+sz<=xs.length*sz:=by rw [<- Nat.succ_mul];exact Nat.mul_le_mul_right _ (by omega)
     omega
    have hf:flat[a*sz+j]? = some (flat.getD (a*sz+j) undef):=by rw [aA2,aAf hlt];rfl
   . exact ⟨hok _ rfl,ho.cells (g:=g) rfl _ _ hf⟩
   . exact hr a x j y _ hx hy hf
theorem RO.rd {w:World} {ok ok':Nat->Prop} (hk:∀ k,ok k->ok' k) {x:DV} {v:Value} (h:RO w ok x v):(∀ k,Ins w x v k->ok' k)->RD w ok' x.pl v:=by
 induction h with
 | plain x v h=>intro _;rw [h.pl];exact h.mono fun k h=>⟨hk k h,rfl⟩
 | own e sz xs v flat h0 hs ho hr head sep ih=>
   intro hi
   show RD w ok' (.sl (plRows xs)) v
   rw [plRows_eq]
   refine rd_owns (e:=e) (sz:=sz) (flat:=flat) (fun x hx=>?_) (by rw [aAh];exact ho) (fun k h=>hi k (.head _ _ _ _ _ h)) (fun i x j y u hx hy hu=>?_)
   . obtain ⟨x',hx',rfl⟩:=aBc.1 hx
     rw [aAh];exact hs x' hx'
   . rw [aAi] at hx
     obtain ⟨x',hx',rfl⟩:=aBq.1 hx
     rw [aAi] at hy
     obtain ⟨y',hy',rfl⟩:=aBq.1 hy
     exact ih i x' j y' u hx' hy' hu (fun k h=>hi k (.cell _ _ _ _ _ flat i x' j y' u ho hx' hy' hu h))
theorem row_deep {w:World} {ok:Nat->Prop} {e sz:Nat} {v:Value} {xs:List (List DV)} (h0:0 < sz) (hs:∀ x ∈ xs,x.length=sz) {flat:List Value} (ho:w.ownsRow 0 e sz v xs.length flat)
 (hr:∀ (i:Nat) x (j:Nat) y u,xs[i]? = some x->x[j]? = some y->flat[i*sz+j]? = some u->RD w ok y u):RO w ok (.own e sz xs) v /\ ∀ k,Ins w (.own e sz xs) v k->blkOf v=some k:=by
 refine ⟨.own e sz xs v flat h0 hs ho (fun i x j y u hx hy hu=>.plain _ _ (hr i x j y u hx hy hu)) (fun i x j y u k hx hy hu hk=>absurd hk ((hr i x j y u hx hy hu).not_own k)) (fun i x j y u i' x' j' y' u' k hx hy hu _ _ _ hk=>absurd hk ((hr i x j y u hx hy hu).not_own k)),fun k hk=>?_⟩
 cases hk with
 | head _ _ _ _ _ h=>exact h
 | cell _ _ _ _ _ flat' i x j y u ho' hx hy hu h=>
   rw [ownsRow_inj ho' ho] at hu
   exact absurd h ((hr i x j y u hx hy hu).not_own k)
theorem RO.parts {w:World} {ok:Nat->Prop} {e sz:Nat} {xs:List (List DV)} {v:Value} (h:RO w ok (.own e sz xs) v):∃ flat,0 < sz/\(∀ x ∈ xs,x.length=sz)/\w.ownsRow 0 e sz v xs.length flat /\
 (∀ (i:Nat) x (j:Nat) y u,xs[i]? = some x->x[j]? = some y->flat[i*sz+j]? = some u->RO w ok y u) /\
 (∀ (i:Nat) x (j:Nat) y u k,xs[i]? = some x->x[j]? = some y->flat[i*sz+j]? = some u->Ins w y u k->blkOf v≠some k) /\
 (∀ (i:Nat) x (j:Nat) y u (i':Nat) x' (j':Nat) y' u' k,xs[i]? = some x->x[j]? = some y->flat[i*sz+j]? = some u->xs[i']? = some x'->x'[j']? = some y'->flat[i'*sz+j']? = some u'->Ins w y u k->Ins w y' u' k->i=i'/\j=j'):=by
 cases h with
 | plain _ _ h=>cases h
 | own _ _ _ _ flat h0 hs ho hr head sep=>exact ⟨flat,h0,hs,ho,hr,head,sep⟩
theorem flat_at {w:World} {base e sz:Nat} {v:Value} {xs:List (List DV)} {flat:List Value} (hs:∀ x ∈ xs,x.length=sz) (ho:w.ownsRow base e sz v xs.length flat) {i j:Nat} {x:List DV} {y:DV} (hx:xs[i]? = some x) (hy:x[j]? = some y):∃ u,flat[i*sz+j]? = some u:=by
 have h1:i < xs.length:=(aAe.1 hx).1
 have h2:j < sz:=by rw [<- hs x (aAg hx)];exact (aAe.1 hy).1
 have h3:i*sz+sz<=xs.length*sz:=by rw [<- Nat.succ_mul];exact Nat.mul_le_mul_right _ h1
 have h4:flat.length=xs.length*sz:=ho.1
 exact ⟨_,aAf (by omega)⟩
theorem Inv.at {m:M} {top:List Blk} {H:List (List Blk)} (hi:Inv m top H) {j p e c et sz0 e2 sz2:Nat} {xs0 ys:List (List DV)} {x0:List DV} {v:Value} (h1:top[j]? = some (.sub p e c)) (h2:top[p]? = some (.deep et sz0 xs0)) (h3:xs0[e]? = some x0) (h4:x0[c]? = some (.own e2 sz2 ys)) (hρ:m.ρ 0 j=some v) :
 ∃ V flat,m.ρ 0 p=some V/\m.w.ownsRow 0 et sz0 V xs0.length flat/\flat[e*sz0+c]? = some v/\RO m.w m.ok (.own et sz0 xs0) V/\RO m.w m.ok (.own e2 sz2 ys) v:=by
 obtain ⟨_,V,hV,hh⟩:=hi.sub j p e c v h1 hρ
 have hro:RO m.w m.ok (.own et sz0 xs0) V:=hi.blk 0 p _ h2 V hV
 obtain ⟨flat,_,hs,ho,hr,_,_⟩:=hro.parts
 have hf:=hh et sz0 xs0 x0 e2 sz2 ys flat h2 h3 h4 ho
 exact ⟨V,flat,hV,ho,hf,hro,hr e x0 c _ v h3 h4 hf⟩
theorem owns_hdr {w:World} {base e sz n:Nat} {A:Option Addr} {N c:Nat} {flat:List Value} (ho:w.ownsRow base e sz (.slice A N c) n flat):N=n/\(0 < N -> ∃ g,A=some ⟨g,0,none⟩):=by
 rcases ho.2 with ⟨h,h0⟩ | ⟨g,cap,cur,h,_⟩
 . simp only [Value.slice.injEq] at h
   exact ⟨by omega,fun _=>by omega⟩
 . simp only [Value.slice.injEq] at h
   exact ⟨h.2.1,fun _=>⟨g,h.1⟩⟩
inductive Ty where
 | bool | int (k:IntKind) | str | slice (e:Nat) | struct (fs:List (Nat × Nat)) | arr (n e:Nat) | other
def tyOf:TypeDesc->Ty
 | .bool=>.bool | .int k=>.int k | .string=>.str | .slice e=>.slice e
 | .struct fs=>.struct (fs.toList.map fun f=>(f.offset,f.type)) | .array n e=>.arr n e | _=>.other
def Ty.isAgg:Ty->Bool
 | .struct _ | .arr _ _=>true
 | _=>false
structure TyRow where
 t:Nat
 ty:Ty
 size:Nat
 bytes:Nat
 zero:List PV
def pvZero:Value->PV
 | .bool b=>.kb b | .int k n=>.d (.int k n) | .string s=>.d (.str s) | .slice none 0 0=>.nils | _=>.any
def RowOk (P:Program) (r:TyRow):Prop:=
 ((P.info? r.t).map fun i=>(i.size,i.bytes,i.zero.map fun z=>z.cells.toList.map pvZero))=some (r.size,r.bytes,some r.zero)/\(P.underlying r.t).map tyOf=some r.ty
def Op.turns (gv es:List Nat):Op->Bool
 | .store ..=>true
 | .buildSlice t _ _=>gv.any (Nat.beq (t+1000))
 | .call c=>(match c.callee with | .builtin .copy=>true | .builtin .append=>(match c.args.toList with | .tmp t::_=>!(es.any (Nat.beq t)) | _=>true) | .value (.func f)=>gv.any (Nat.beq f) | _=>false)
 | _=>false
def pureOp:Op->Bool
 | .move _ | .assign _ | .extract .. | .fieldAddr ..=>true
 | _=>false
def lateB (tn:Op->Bool) (ops:List Oper) (j:Nat):Bool:=(ops.take (j+1)).any fun o=>tn o.op
noncomputable def empsOf (ops:List Oper):List Nat:=List.rec (motive:=fun _=>List Nat) [] (fun o _ ih=>match o.op with | .buildSlice _ n _=>(match n with | 0=>(match o.dst with | some d=>d::ih | none=>ih) | _+1=>ih) | _=>ih) ops
noncomputable def empsF (fz:Bool) (ops:List Oper):List Nat:=match fz with | true=>empsOf ops | false=>[]
def anc1 (T:List Nat) (o:Oper):Nat:=o.after.toList.foldl (fun s e=>bif Region.binds .any e then Nat.lor (Nat.lor s (Nat.shiftLeft 1 e.on)) (T.getD e.on 0) else s) 0
def ancs (ops:List Oper):List Nat:=ops.foldl (fun T o=>T ++ [anc1 T o]) []
def bitB (T:List Nat) (j i:Nat):Bool:=Nat.testBit (T.getD j 0) i
def drawAt (tn:Op->Bool) (ops:Array Oper) (T:List Nat):Bool:=
 (List.range ops.size).all fun j=>match ops[j]? with
   | none=>true
   | some oj=>(oj.after.all fun e=>!Region.binds .any e||Nat.blt e.on j)&&Nat.beq (T.getD j 0) (anc1 T oj)&&(List.range j).all fun i=>bitB T j i||match ops[i]? with
     | none=>true
     | some oi=>oi.apart ops oj&&(pureOp oi.op||pureOp oj.op || !lateB tn ops.toList j)
def drawOk (tn:Op->Bool) (ops:Array Oper):Bool:=drawAt tn ops (ancs ops.toList)
def isDefer:Op->Bool
 | .defer _=>true
 | _=>false
def noDefer (ops:List Oper):Bool:=ops.all fun o=>!isDefer o.op
def drawsOk (gv:List Nat):Code->Bool
 | .region _ ops draw=>!draw||(noDefer ops.toList&&drawOk (Op.turns gv []) ops)
 | .seq a b=>drawsOk gv a&&drawsOk gv b
 | .cond _ a b=>drawsOk gv a&&drawsOk gv b
 | .block _ a=>drawsOk gv a
 | .loop a=>drawsOk gv a
 | .scope a=>drawsOk gv a
 | .rangeFunc _ _ a b=>drawsOk gv a&&drawsOk gv b
 | _=>true
structure Cx where
 P:Program
 L:List TyRow
 n:Nat
 no:List Nat
 bad:List Nat
 give:List Nat
 cmp:List Nat
 grow:List (Nat × Nat)
 frz:Bool
 fcl:Bool
 mv:List Nat
 fld:List Nat
def Cx.plain (C:Cx) (f:Nat):Bool:=Nat.blt f C.n && !(C.no.any (Nat.beq f))
def Cx.good (C:Cx) (f:Nat):Bool:=Nat.blt f C.n && !(C.bad.any (Nat.beq f))
def goodB (P:Program) (n:Nat) (bad gv:List Nat):Bool:=
 (List.range n).all fun f=>bad.any (Nat.beq f)||(match P.funcs[f]? with | some fn=>(match fn.body with | some c=>drawsOk gv c | none=>true) | none=>false)
def funsB (P:Program) (n:Nat) (no:List Nat):Bool:=
 (List.range n).all fun f=>no.any (Nat.beq f)||(match P.funcs[f]? with | some fn=>fn.body.isSome && !(fn.name == "runtime.NumGoroutine") | none=>false)
def closedB (L:List TyRow):Bool:=L.all fun r=>match r.ty with | .struct fs=>(fs.all fun x=>L.any fun r'=>Nat.beq r'.t x.2) | .arr _ e=>(L.any fun r'=>Nat.beq r'.t e) | _=>true
def CmpOk (P:Program) (f:Nat):Prop:=∀ (a b:Value) (w:World),(callFunc f #[a,b]).run P w=((Extern.BytealgCompare.compare #[a,b]).run P w).andThen fun v w=>.ok (.value v) w
def GrowOk (P:Program) (f e:Nat):Prop:=∀ (n:Nat) (w:World),
 (n=0->Calls P f #[.slice none 0 0,.int .i64 n] w fun e' w'=>e' = .returned (.slice none 0 0)/\w'=w) /\
 ∀ i z,P.info? e=some i->i.zero=some z->0 < i.size->z.cells.size=i.size->0 < n->n*i.bytes<=140737488355328->n<=4611686018427387904 ->
   Calls P f #[.slice none 0 0,.int .i64 n] w fun e' w'=>∃ c cur,e' = .returned (.slice (some ⟨w.heap.size,0,none⟩) 0 c)/\w'=w.drew.alloc (.cells cur e (0,0))/\cur.size=c*i.size/\c<=maxLen
structure Cx.Ok (C:Cx):Prop where
 rows:∀ r ∈ C.L,RowOk C.P r
 closed:closedB C.L=true
 funs:funsB C.P C.n C.no=true
 mix:C.P.follows .mixedOrders=true
 draws:goodB C.P C.n C.bad C.give=true
 cmps:∀ f ∈ C.cmp,CmpOk C.P f
 grows:∀ p ∈ C.grow,GrowOk C.P p.1 p.2
def ifK (b:Bool) (K:Prop):Prop:=match b with | true=>K | false=>False
section
variable {α:Type}
def getK (xs:List α) (n:Nat) (K:α->Prop):Prop:=
 List.rec (motive:=fun _=>Nat->Prop) (fun _=>False) (fun x _ ih n=>Nat.rec (motive:=fun _=>Prop) (K x) (fun m _=>ih m) n) xs n
theorem getK_nil (n:Nat) (K:α->Prop):getK [] n K=False:=rfl
theorem getK_zero (x:α) (xs:List α) (K:α->Prop):getK (x::xs) 0 K=K x:=rfl
theorem getK_succ (x:α) (xs:List α) (n:Nat) (K:α->Prop):getK (x::xs) (n+1) K=getK xs n K:=rfl
theorem getK_spec {xs:List α} {n:Nat} {K:α->Prop}:getK xs n K ↔ ∃ x,xs[n]? = some x/\K x:=by
 induction xs generalizing n with
 | nil=>simp [getK_nil]
 | cons x xs ih=>cases n with
   | zero=>simp [getK_zero]
   | succ n=>simp [getK_succ,ih]
def setK (xs:List α) (n:Nat) (v:α) (K:List α->Prop):Prop:=
 List.rec (motive:=fun _=>Nat->(List α->Prop)->Prop) (fun _ _=>False) (fun x xs ih n=>Nat.rec (motive:=fun _=>(List α->Prop)->Prop) (fun K=>K (v::xs)) (fun m _ K=>ih m fun ys=>K (x::ys)) n) xs n K
theorem setK_nil (n:Nat) (v:α) (K:List α->Prop):setK [] n v K=False:=rfl
theorem setK_zero (x:α) (xs:List α) (v:α) (K:List α->Prop):setK (x::xs) 0 v K=K (v::xs):=rfl
theorem setK_succ (x:α) (xs:List α) (n:Nat) (v:α) (K:List α->Prop):setK (x::xs) (n+1) v K=setK xs n v fun ys=>K (x::ys):=rfl
theorem setK_spec {xs:List α} {n:Nat} {v:α} {K:List α->Prop}:setK xs n v K↔n < xs.length/\K (xs.set n v):=by
 induction xs generalizing n K with
 | nil=>simp [setK_nil]
 | cons x xs ih=>cases n with
   | zero=>simp [setK_zero]
   | succ n=>simp [setK_succ,ih]
def snocK (xs:List α) (v:α) (K:List α->Prop):Prop:=
 List.rec (motive:=fun _=>(List α->Prop)->Prop) (fun K=>K [v]) (fun x _ ih K=>ih fun ys=>K (x::ys)) xs K
theorem snocK_nil (v:α) (K:List α->Prop):snocK [] v K=K [v]:=rfl
theorem snocK_cons (x:α) (xs:List α) (v:α) (K:List α->Prop):snocK (x::xs) v K=snocK xs v fun ys=>K (x::ys):=rfl
theorem snocK_spec {xs:List α} {v:α} {K:List α->Prop}:snocK xs v K↔K (xs ++ [v]):=by
 induction xs generalizing K with
 | nil=>simp [snocK_nil]
 | cons x xs ih=>simp [snocK_cons,ih]
def lenK (xs:List α) (K:Nat->Prop):Prop:=
 List.rec (motive:=fun _=>(Nat->Prop)->Prop) (fun K=>K 0) (fun _ _ ih K=>ih fun n=>K (n+1)) xs K
theorem lenK_nil (K:Nat->Prop):lenK ([]:List α) K=K 0:=rfl
theorem lenK_cons (x:α) (xs:List α) (K:Nat->Prop):lenK (x::xs) K=lenK xs fun n=>K (n+1):=rfl
theorem lenK_spec {xs:List α} {K:Nat->Prop}:lenK xs K↔K xs.length:=by
 induction xs generalizing K with
 | nil=>simp [lenK_nil]
 | cons x xs ih=>simp [lenK_cons,ih]
def dropK (xs:List α) (n:Nat) (K:List α->Prop):Prop:=
 List.rec (motive:=fun _=>Nat->Prop) (fun n=>Nat.rec (motive:=fun _=>Prop) (K []) (fun _ _=>False) n) (fun x xs ih n=>Nat.rec (motive:=fun _=>Prop) (K (x::xs)) (fun m _=>ih m) n) xs n
theorem dropK_zero (xs:List α) (K:List α->Prop):dropK xs 0 K=K xs:=by cases xs <;> rfl
theorem dropK_nil (n:Nat) (K:List α->Prop):dropK [] (n+1) K=False:=rfl
theorem dropK_succ (x:α) (xs:List α) (n:Nat) (K:List α->Prop):dropK (x::xs) (n+1) K=dropK xs n K:=rfl
theorem dropK_spec {xs:List α} {n:Nat} {K:List α->Prop}:dropK xs n K↔n<=xs.length/\K (xs.drop n):=by
 induction xs generalizing n K with
 | nil=>cases n <;> simp [dropK_zero,dropK_nil]
 | cons x xs ih=>cases n with
   | zero=>simp [dropK_zero]
   | succ n=>simp [dropK_succ,ih]
def takeK (xs:List α) (n:Nat) (K:List α->Prop):Prop:=
 List.rec (motive:=fun _=>Nat->(List α->Prop)->Prop) (fun n K=>Nat.rec (motive:=fun _=>Prop) (K []) (fun _ _=>False) n) (fun x _ ih n K=>Nat.rec (motive:=fun _=>Prop) (K []) (fun m _=>ih m fun ys=>K (x::ys)) n) xs n K
theorem takeK_zero (xs:List α) (K:List α->Prop):takeK xs 0 K=K []:=by cases xs <;> rfl
theorem takeK_nil (n:Nat) (K:List α->Prop):takeK [] (n+1) K=False:=rfl
theorem takeK_succ (x:α) (xs:List α) (n:Nat) (K:List α->Prop):takeK (x::xs) (n+1) K=takeK xs n fun ys=>K (x::ys):=rfl
theorem takeK_spec {xs:List α} {n:Nat} {K:List α->Prop}:takeK xs n K↔n<=xs.length/\K (xs.take n):=by
 induction xs generalizing n K with
 | nil=>cases n <;> simp [takeK_zero,takeK_nil]
 | cons x xs ih=>cases n with
   | zero=>simp [takeK_zero]
   | succ n=>simp [takeK_succ,ih]
def appK (xs ys:List α) (K:List α->Prop):Prop:=
 List.rec (motive:=fun _=>(List α->Prop)->Prop) (fun K=>K ys) (fun x _ ih K=>ih fun zs=>K (x::zs)) xs K
theorem appK_nil (ys:List α) (K:List α->Prop):appK [] ys K=K ys:=rfl
theorem appK_cons (x:α) (xs ys:List α) (K:List α->Prop):appK (x::xs) ys K=appK xs ys fun zs=>K (x::zs):=rfl
theorem appK_spec {xs ys:List α} {K:List α->Prop}:appK xs ys K↔K (xs++ys):=by
 induction xs generalizing K with
 | nil=>simp [appK_nil]
 | cons x xs ih=>simp [appK_cons,ih]
def subK (xs:List α) (o n:Nat) (K:List α->Prop):Prop:=dropK xs o fun ys=>takeK ys n K
theorem subK_spec {xs:List α} {o n:Nat} {K:List α->Prop}:subK xs o n K↔o+n<=xs.length/\K ((xs.drop o).take n):=by
 simp only [subK,dropK_spec,takeK_spec,aAq]
 constructor
 . rintro ⟨a,b,c⟩;exact ⟨by omega,c⟩
 . rintro ⟨a,c⟩;exact ⟨by omega,by omega,c⟩
def putK (xs:List α) (o:Nat) (ys:List α) (K:List α->Prop):Prop:=
 List.rec (motive:=fun _=>Nat->List α->(List α->Prop)->Prop)
  (fun o ys K=>Nat.rec (motive:=fun _=>Prop) (List.rec (motive:=fun _=>Prop) (K []) (fun _ _ _=>False) ys) (fun _ _=>False) o)
  (fun x xs ih o ys K=>Nat.rec (motive:=fun _=>Prop) (List.rec (motive:=fun _=>Prop) (K (x::xs)) (fun y ys _=>ih 0 ys fun zs=>K (y::zs)) ys) (fun m _=>ih m ys fun zs=>K (x::zs)) o) xs o ys K
theorem putK_done (xs:List α) (K:List α->Prop):putK xs 0 [] K=K xs:=by cases xs <;> rfl
theorem putK_nil (y:α) (ys:List α) (K:List α->Prop):putK [] 0 (y::ys) K=False:=rfl
theorem putK_zero (x:α) (xs:List α) (y:α) (ys:List α) (K:List α->Prop):putK (x::xs) 0 (y::ys) K=putK xs 0 ys fun zs=>K (y::zs):=rfl
theorem putK_none (n:Nat) (ys:List α) (K:List α->Prop):putK [] (n+1) ys K=False:=rfl
theorem putK_succ (x:α) (xs:List α) (n:Nat) (ys:List α) (K:List α->Prop):putK (x::xs) (n+1) ys K=putK xs n ys fun zs=>K (x::zs):=rfl
theorem putK_spec {xs:List α} {o:Nat} {ys:List α} {K:List α->Prop}:putK xs o ys K↔o+ys.length<=xs.length/\K (xs.take o++ys++xs.drop (o+ys.length)):=by
 induction xs generalizing o ys K with
 | nil=>cases o <;> cases ys <;> simp [putK_done,putK_nil,putK_none]
 | cons x xs ih=>
   cases o with
   | zero=>cases ys with
     | nil=>simp [putK_done]
     | cons y ys=>simp [putK_zero,ih,Nat.add_comm]
   | succ o=>
     simp only [putK_succ,ih,aAn,List.take_succ_cons,List.cons_append]
     rw [show o+1+ys.length=(o+ys.length)+1 by omega,List.drop_succ_cons]
     constructor <;> rintro ⟨a,b⟩ <;> exact ⟨by omega,b⟩
def lookK (L:List TyRow) (t:Nat) (K:TyRow->Prop):Prop:=
 List.rec (motive:=fun _=>Prop) False (fun r _ ih=>match Nat.beq r.t t with | true=>K r | false=>ih) L
theorem lookK_cons (r:TyRow) (rs:List TyRow) (t:Nat) (K:TyRow->Prop):lookK (r::rs) t K=match Nat.beq r.t t with | true=>K r | false=>lookK rs t K:=rfl
theorem lookK_spec {L:List TyRow} {t:Nat} {K:TyRow->Prop} (h:lookK L t K):∃ r,r ∈ L/\r.t=t/\K r:=by
 induction L with
 | nil=>exact h.elim
 | cons r rs ih=>
   rw [lookK_cons] at h
   split at h
   . rename_i hb;exact ⟨r,aAu,aBj hb,h⟩
   . obtain ⟨r',a,b,c⟩:=ih h;exact ⟨r',aAv _ a,b,c⟩
end
def evK (tm:List PV):Operand->(PV->Prop)->Prop
 | .tmp t,K=>getK tm t K
 | .const v,K=>(match v with | .bool b=>K (.kb b) | .int k n=>K (.d (.int k n)) | .string s=>K (.d (.str s)) | .slice none 0 0=>K .nils | _=>K .any)
 | .func f,K=>K (.func (.func f) [] [])
 | .global _,K=>K .any
def evsK (tm:List PV) (xs:List Operand) (K:List PV->Prop):Prop:=
 List.rec (motive:=fun _=>(List PV->Prop)->Prop) (fun K=>K []) (fun x _ ih K=>evK tm x fun p=>ih fun ps=>K (p::ps)) xs K
def allCellK (ps:List PV) (K:Prop):Prop:=
 List.rec (motive:=fun _=>Prop) K (fun p _ ih=>match p.cell with | true=>ih | false=>False) ps
theorem allCellK_cons (p:PV) (ps:List PV) (K:Prop):allCellK (p::ps) K=match p.cell with | true=>allCellK ps K | false=>False:=rfl
def cellsK (p:PV) (K:List PV->Prop):Prop:=
 match p with
 | .any | .tuple _=>False
 | .agg cs=>allCellK cs (K cs)
 | p=>K [p]
def dvK (p:PV) (K:DV->Prop):Prop:=
 match p with
 | .d x=>K x | .kb b=>K (.bool b) | .nils=>K (.sl []) | .emp=>K (.sl []) | _=>False
def dvsK (ps:List PV) (K:List DV->Prop):Prop:=
 List.rec (motive:=fun _=>(List DV->Prop)->Prop) (fun K=>K []) (fun p _ ih K=>dvK p fun x=>ih fun xs=>K (x::xs)) ps K
theorem dvsK_cons (p:PV) (ps:List PV) (K:List DV->Prop):dvsK (p::ps) K=dvK p fun x=>dvsK ps fun xs=>K (x::xs):=rfl
def pvsK (xs:List DV) (K:List PV->Prop):Prop:=
 List.rec (motive:=fun _=>(List PV->Prop)->Prop) (fun K=>K []) (fun x _ ih K=>ih fun ps=>K (.d x::ps)) xs K
def blkK (top:List Blk) (H:List (List Blk)) (l i:Nat) (K:Blk->Prop):Prop:=
 match l with
 | 0=>getK top i K
 | l+1=>getK H l fun t=>getK t i K
def newK (top:List Blk) (b:Blk) (K:Nat->List Blk->Prop):Prop:=lenK top fun i=>snocK top b fun top'=>K i top'
def wholeK (r:TyRow) (ys:List PV) (K:PV->Prop):Prop:=
 match r.ty.isAgg with
 | true=>K (.agg ys)
 | false=>match ys with | [y]=>K y | _=>False
def nearK (l:Nat) (ys:List PV) (K:Prop):Prop:=
 match l with
 | 0=>K
 | _+1=>ifK (ys.all PV.inv) K
def loadK (C:Cx) (H:List (List Blk)) (top:List Blk) (t:Nat) (p:PV) (K:PV->Prop):Prop:=
 lookK C.L t fun r=>match p with
 | .ptr l i o=>blkK top H l i fun b=>match b with | .box cs=>subK cs o r.size fun ys=>nearK l ys (wholeK r ys K) | _=>False
 | .rptr l i sz e j=>blkK top H l i fun b=>match b with | .row _ sz' xs=>ifK (Nat.beq sz' sz) (∃ x,xs[e]? = some x/\subK x j r.size fun ys=>pvsK ys fun ps=>wholeK r ps K) | _=>False
 | .iptr cs=>subK cs 0 r.size fun ys=>pvsK ys fun ps=>wholeK r ps K
 | _=>False
def kNum:IntKind->Nat
 | .i8=>0 | .i16=>1 | .i32=>2 | .i64=>3 | .u8=>4 | .u16=>5 | .u32=>6 | .u64=>7
def kEq (a b:IntKind):Bool:=Nat.beq (kNum a) (kNum b)
theorem kEq_eq {a b:IntKind} (h:kEq a b=true):a=b:=by
 have:=aBj h
 cases a <;> cases b <;> simp [kNum] at this <;> rfl
def pickK (c:PV) (a b:PV) (K:PV->Prop):Prop:=
 match c with
 | .kb true=>K a
 | .kb false=>K b
 | .d (.bool c)=>(match a,b with
   | .d (.bool x),.d (.bool y)=>K (.d (.bool (bif c then x else y)))
   | .kb x,.d (.bool y)=>K (.d (.bool (bif c then x else y)))
   | .d (.bool x),.kb y=>K (.d (.bool (bif c then x else y)))
   | .kb x,.kb y=>K (.d (.bool (bif c then x else y)))
   | _,_=>False)
 | _=>False
def intOpK (op:BinOp) (k:IntKind) (a b:Int) (K:PV->Prop):Prop:=
 match op with
 | .add=>∀ z,z=k.wrap (a+b)->K (.d (.int k z))
 | .sub=>∀ z,z=k.wrap (a - b)->K (.d (.int k z))
 | .mul=>∀ z,z=k.wrap (a*b)->K (.d (.int k z))
 | .quo=>b≠0 /\ ∀ z,z=k.wrap (a.tdiv b)->K (.d (.int k z))
 | .rem=>b≠0 /\ ∀ z,z=a.tmod b->K (.d (.int k z))
 | .and=>∀ z,z=k.wrap (BitVec.ofInt k.bits a &&& BitVec.ofInt k.bits b).toNat->K (.d (.int k z))
 | .or=>∀ z,z=k.wrap (BitVec.ofInt k.bits a ||| BitVec.ofInt k.bits b).toNat->K (.d (.int k z))
 | .xor=>∀ z,z=k.wrap (BitVec.ofInt k.bits a ^^^ BitVec.ofInt k.bits b).toNat->K (.d (.int k z))
 | .shr=>0<=b/\b<=(k.bits:Int) /\ ∀ z,z=a.fdiv (2 ^ b.toNat)->K (.d (.int k z))
 | .eql=>K (.d (.bool (a==b)))
 | .neq=>K (.d (.bool (a != b)))
 | .lss=>K (.d (.bool (decide (a < b))))
 | .leq=>K (.d (.bool (decide (a<=b))))
 | .gtr=>K (.d (.bool (decide (a > b))))
 | .geq=>K (.d (.bool (decide (a>=b))))
 | _=>False
def strOpK (op:BinOp) (a b:ByteArray) (K:PV->Prop):Prop:=
 match op with
 | .eql=>K (.d (.bool (a.toList==b.toList)))
 | .neq=>K (.d (.bool (!(a.toList==b.toList))))
 | .lss=>K (.d (.bool (Op.bytesLess a.toList b.toList)))
 | .leq=>K (.d (.bool (Op.bytesLess a.toList b.toList||a.toList==b.toList)))
 | .gtr=>K (.d (.bool (!(Op.bytesLess a.toList b.toList||a.toList==b.toList))))
 | .geq=>K (.d (.bool (!Op.bytesLess a.toList b.toList)))
 | _=>False
def boolOpK (op:BinOp) (a b:Bool) (K:PV->Prop):Prop:=
 match op with
 | .eql=>K (.d (.bool (a==b)))
 | .neq=>K (.d (.bool (!(a==b))))
 | _=>False
def bool? : PV->Option Bool
 | .kb b=>some b | .d (.bool b)=>some b | _=>none
def nilCmpK (op:BinOp) (xs:List (List DV)) (K:PV->Prop):Prop:=
 match op with
 | .eql=>(xs = []->K .ub)/\(xs ≠ []->K (.kb false))
 | .neq=>(xs = []->K .ub)/\(xs ≠ []->K (.kb true))
 | _=>False
def nilNilK (op:BinOp) (K:PV->Prop):Prop:=
 match op with
 | .eql=>K (.kb true)
 | .neq=>K (.kb false)
 | _=>False
def boolsK (op:BinOp) (a:Bool) (q:PV) (K:PV->Prop):Prop:=
 match q with
 | .d (.bool b)=>boolOpK op a b K
 | .kb b=>boolOpK op a b K
 | _=>False
def Ty.isBool:Ty->Bool
 | .bool=>true
 | _=>false
def Ty.isSlice:Ty->Bool
 | .slice _=>true
 | _=>false
def eqsK (ps qs:List PV) (K:Bool->Prop):Prop:=
 List.rec (motive:=fun _=>List PV->(Bool->Prop)->Prop) (fun qs K=>match qs with | []=>K true | _=>False)
  (fun p _ ih qs K=>match p with | .d (.int k a)=>(match qs with | .d (.int k' b)::qs'=>ifK (kEq k k') (ih qs' fun r=>K (a==b&&r)) | _=>False) | _=>False) ps qs K
theorem eqsK_nil (qs:List PV) (K:Bool->Prop):eqsK [] qs K=match qs with | []=>K true | _=>False:=rfl
theorem eqsK_cons (p:PV) (ps qs:List PV) (K:Bool->Prop):eqsK (p::ps) qs K=match p with | .d (.int k a)=>(match qs with | .d (.int k' b)::qs'=>ifK (kEq k k') (eqsK ps qs' fun r=>K (a==b&&r)) | _=>False) | _=>False:=rfl
def aggOpK (op:BinOp) (b:Bool) (K:PV->Prop):Prop:=match op with | .eql=>K (.d (.bool b)) | .neq=>K (.d (.bool (!b))) | _=>False
def binK (C:Cx) (op:BinOp) (t:Nat) (p q:PV) (K:PV->Prop):Prop:=
 match p with
 | .d (.int k a)=>(match q with | .d (.int k' b)=>ifK (kEq k k') (intOpK op k a b K) | _=>False)
 | .d (.str a)=>(match q with | .d (.str b)=>strOpK op a b K | _=>False)
 | .d (.bool a)=>lookK C.L t fun r=>ifK r.ty.isBool (boolsK op a q K)
 | .kb a=>lookK C.L t fun r=>ifK r.ty.isBool (boolsK op a q K)
 | .d (.sl xs)=>lookK C.L t fun r=>ifK r.ty.isSlice (match q with | .nils=>nilCmpK op xs K | _=>False)
 | .nils=>lookK C.L t fun r=>ifK r.ty.isSlice (match q with | .nils=>nilNilK op K | _=>False)
 | .agg ps=>(match q with
   | .agg qs=>lookK C.L t fun r=>(match r.ty with
     | .arr n e=>lookK C.L e fun re=>(match re.ty with
       | .int _=>ifK (Nat.beq re.size 1) (lenK ps fun a=>ifK (Nat.beq a n) (eqsK ps qs fun b=>aggOpK op b K))
       | _=>False)
     | _=>False)
   | _=>False)
 | _=>False
def ownAtK (top:List Blk) (p e c:Nat) (K:Nat->Nat->List (List DV)->Prop):Prop:=
 getK top p fun b=>match b with
 | .deep _ _ xs=>∃ x,xs[e]? = some x/\getK x c fun y=>match y with | .own e2 sz2 ys=>K e2 sz2 ys | _=>False
 | _=>False
def idxK (C:Cx) (H:List (List Blk)) (top:List Blk) (t:Nat) (p:PV) (n:Int) (K:PV->Prop):Prop:=
 lookK C.L t fun r=>match r.ty with
 | .slice e=>lookK C.L e fun r'=>(match p with
   | .d (.sl xs)=>0<=n /\ ∃ y,xs[n.toNat]? = some y/\y.length=r'.size/\K (.iptr y)
   | .row l i m=>blkK top H l i fun b=>(match b with
     | .row _ sz _=>ifK (Nat.beq sz r'.size) (0<=n/\n < (m:Int)/\K (.rptr l i r'.size n.toNat 0))
     | .deep _ sz _=>ifK (Nat.beq sz r'.size) (0<=n/\n < (m:Int)/\K (.rptr l i r'.size n.toNat 0))
     | .sub p e c=>(match l with
       | 0=>ownAtK top p e c fun _ sz _=>ifK (Nat.beq sz r'.size) (0<=n/\n < (m:Int)/\K (.rptr 0 i r'.size n.toNat 0))
       | _+1=>False)
     | _=>False)
   | _=>False)
 | .arr len e=>lookK C.L e fun r'=>(match p with
   | .ptr l i o=>0<=n/\n < (len:Int) /\ ∃ k:Nat,n=k/\K (.ptr l i (o+k*r'.size))
   | .rptr l i sz e' j=>0<=n/\n < (len:Int) /\ ∃ k:Nat,n=k/\K (.rptr l i sz e' (j+k*r'.size))
   | .iptr cs=>0<=n/\n < (len:Int) /\ ∃ k:Nat,n=k/\dropK cs (k*r'.size) fun ys=>K (.iptr ys)
   | _=>False)
 | _=>False
def fieldK (C:Cx) (t:Nat) (p:PV) (fld:Nat) (K:PV->Prop):Prop:=
 lookK C.L t fun r=>match r.ty with
 | .struct fs=>getK fs fld fun (o,ft)=>lookK C.L ft fun r'=>ifK (Nat.blt 0 r'.size) (match p with
   | .ptr l i o'=>K (.ptr l i (o'+o))
   | .rptr l i sz e j=>K (.rptr l i sz e (j+o))
   | .iptr cs=>dropK cs o fun ys=>K (.iptr ys)
   | _=>False)
 | _=>False
def buildK (C:Cx) (tm:List PV) (dA:Nat->(Nat->Nat->Prop)->Prop) (parts:List (Nat × Operand)) (cs:List PV) (K:List PV->Prop):Prop:=
 List.rec (motive:=fun _=>List PV->Prop) (fun cs=>K cs) (fun ix _ ih cs=>evK tm ix.2 fun p=>cellsK p fun ys=>dA ix.1 fun o sz=>lenK ys fun n=>ifK (Nat.beq n sz) (putK cs o ys fun cs'=>ih cs')) parts cs
theorem buildK_cons (C:Cx) (tm:List PV) (dA:Nat->(Nat->Nat->Prop)->Prop) (i:Nat) (x:Operand) (rest:List (Nat × Operand)) (cs:List PV) (K:List PV->Prop) :
 buildK C tm dA ((i,x)::rest) cs K=evK tm x fun p=>cellsK p fun ys=>dA i fun o sz=>lenK ys fun n=>ifK (Nat.beq n sz) (putK cs o ys fun cs'=>buildK C tm dA rest cs' K):=rfl
def placeK (C:Cx) (ty:Ty) (i:Nat) (K:Nat->Nat->Prop):Prop:=
 match ty with
 | .struct fs=>getK fs i fun (o,ft)=>lookK C.L ft fun r'=>K o r'.size
 | .arr _ e=>lookK C.L e fun r'=>K (i*r'.size) r'.size
 | _=>False
def elemsK (tm:List PV) (size n:Nat) (parts:List (Nat × Operand)) (K:List (List DV)->Prop):Prop:=
 List.rec (motive:=fun _=>Nat->(List (List DV)->Prop)->Prop) (fun _ K=>K []) (fun ix _ ih n K=>ifK (Nat.beq ix.1 n) (evK tm ix.2 fun p=>cellsK p fun ys=>lenK ys fun m=>ifK (Nat.beq m size) (dvsK ys fun ds=>ih (n+1) fun es=>K (ds::es)))) parts n K
def elemsP (tm:List PV) (size n:Nat) (parts:List (Nat × Operand)) (K:List (List PV)->Prop):Prop:=
 List.rec (motive:=fun _=>Nat->(List (List PV)->Prop)->Prop) (fun _ K=>K []) (fun ix _ ih n K=>ifK (Nat.beq ix.1 n) (evK tm ix.2 fun p=>cellsK p fun ys=>lenK ys fun m=>ifK (Nat.beq m size) (ih (n+1) fun es=>K (ys::es)))) parts n K
noncomputable def rowP (p:PV):Bool:=match p with
 | .row _ _ _=>true
 | .agg cs=>List.rec (motive:=fun _=>Bool) false (fun c _ ih=>match c with | .row _ _ _=>true | _=>ih) cs
 | _=>false
noncomputable def tmpB (tm:List PV) (t:Nat):PV:=List.rec (motive:=fun _=>Nat->PV) (fun _=>.any) (fun p _ ih t=>Nat.rec (motive:=fun _=>PV) p (fun t _=>ih t) t) tm t
noncomputable def anyRow (tm:List PV) (parts:List (Nat × Operand)):Bool:=List.rec (motive:=fun _=>Bool) false (fun x _ ih=>match x.2 with | .tmp t=>(match rowP (tmpB tm t) with | true=>true | false=>ih) | _=>ih) parts
def litsK (C:Cx) (tm:List PV) (t n:Nat) (parts:List (Nat × Operand)) (K:PV->Prop):Prop:=
 lookK C.L t fun r=>(match r.ty with
  | .slice e=>lookK C.L e fun r'=>ifK (Nat.blt 0 r'.size) (ifK (Nat.ble (n*r'.size) 16777216) (elemsP tm r'.size 0 parts fun es=>lenK es fun k=>ifK (Nat.beq k n) (ifK (Nat.blt 0 n) (K (.lits es)))))
  | _=>False)
def cutK (size:Nat) (xs:List (List DV)) (lo hi:Option PV) (K:PV->Prop):Prop:=
 match lo,hi with
 | none,none=>K (.d (.sl xs))
 | none,some (.d (.int _ h))=>0<=h/\h<=(xs.length:Int)/\K (.d (.sl (xs.take h.toNat)))
 | some (.d (.int _ l)),none=>(∀ x ∈ xs,x.length=size)/\0<=l/\l<=(xs.length:Int)/\K (.d (.sl (xs.drop l.toNat)))
 | some (.d (.int _ l)),some (.d (.int _ h))=>(∀ x ∈ xs,x.length=size)/\0<=l/\l<=h/\h<=(xs.length:Int)/\K (.d (.sl ((xs.take h.toNat).drop l.toNat)))
 | _,_=>False
def sliceK (size:Nat) (p:PV) (lo hi:Option PV) (K:PV->Prop):Prop:=
 match p with
 | .d (.sl xs)=>cutK size xs lo hi K
 | .row l i n=>(match lo,hi with
   | none,some (.d (.int _ h))=>0<=h/\h<=(n:Int)/\K (.row l i h.toNat)
   | _,_=>False)
 | _=>False
def arrSlK (size n:Nat) (p:PV) (lo hi:Option PV) (K:PV->Prop):Prop:=
 match p with
 | .iptr cs=>(match lo,hi with
   | none,none=>(Nat.blt 0 n&&Nat.ble n 65536)=true/\n*size<=cs.length/\K (.d (.sl ((List.range n).map fun i=>(cs.drop (i*size)).take size)))
   | _,_=>False)
 | _=>False
def slTyK (C:Cx) (t:Nat) (p:PV) (lo hi:Option PV) (K:PV->Prop):Prop:=
 lookK C.L t fun r=>(match r.ty with
  | .slice e=>lookK C.L e fun r'=>sliceK r'.size p lo hi K
  | .arr n e=>lookK C.L e fun r'=>arrSlK r'.size n p lo hi K
  | _=>False)
def optEvK (tm:List PV):Option Operand->(Option PV->Prop)->Prop
 | none,K=>K none
 | some x,K=>evK tm x fun p=>K (some p)
def convK (C:Cx) (src dst:Nat) (p:PV) (K:PV->Prop):Prop:=
 lookK C.L src fun rs=>lookK C.L dst fun rd=>match p with
 | .d (.int k n)=>(match rd.ty with | .int k'=>(match rs.ty with | .int _=>∀ z,z=k'.wrap n->K (.d (.int k' z)) | _=>False) | _=>False)
 | .d (.str s)=>(match rs.ty,rd.ty with
   | .str,.slice e=>lookK C.L e fun re=>(match re.ty with | .int .u8=>re.size=1/\s.size<=140737488355328/\K (.d (.sl (s.data.toList.map fun b=>[.int .u8 b.toNat]))) | _=>False)
   | _,_=>False)
 | .d (.sl xs)=>(match rs.ty,rd.ty with
   | .slice e,.str=>lookK C.L e fun re=>(match re.ty with | .int .u8=>∃ bs:List UInt8,xs=bs.map (fun b=>[DV.int .u8 b.toNat])/\K (.d (.str ⟨bs.toArray⟩)) | _=>False)
   | _,_=>False)
 | _=>False
structure RowB where
 e:Nat
 sz:Nat
 xs:List (List DV)
noncomputable def dpv (xs:List DV):List PV:=List.rec (motive:=fun _=>List PV) [] (fun x _ ih=>.d x::ih) xs
noncomputable def headD (xs:List (List DV)):List DV:=List.rec (motive:=fun _=>List DV) [] (fun x _ _=>x) xs
noncomputable def RowB.blk (r:RowB):Blk:=match Nat.beq r.sz 0 with | true=>.box (dpv (headD r.xs)) | false=>(match Nat.ble 64 r.sz with | true=>.deep r.e (r.sz - 64) r.xs | false=>.row r.e r.sz r.xs)
@[irreducible] def aD (C:Cx) (H:List (List Blk)) (f:Nat) (args:List PV) (r:PV) (N:List RowB):Prop:=
  ∀ (m:M) (vs:Array Value),Inv m [] H->(∀ i,m.ρ 0 i=none)->args.length=vs.size->(∀ (j:Nat) p v,args[j]? = some p->vs[j]? = some v->RP m p v) ->
    Calls C.P f vs m.w fun e w'=>∃ v m',e = .returned v/\m'.w=w'/\Grow m m'/\(∀ l i,m'.ρ (l+1) i=m.ρ (l+1) i)/\(∀ j b u k,(N.map RowB.blk)[j]? = some b->m'.ρ 0 j=some u->b.has m'.w u k->m.w.heap.size<=k)/\Inv m' (N.map RowB.blk) H/\RP m' r v
noncomputable def gblk:Option RowB->Blk
 | none=>.dead
 | some r=>r.blk
structure M0 extends M where
 g:List Blk
 V:Nat->Prop
 Z:Nat->Option Obj
 W:Nat->Prop
 A:Nat->Option Value
 ds:List Deferred
 tsz:Nat
 rnd:Bool
def M0.of (m:M) (g:List Blk):M0:={ toM:=m,g:=g,V:=fun _=>False,Z:=fun _=>none,W:=fun _=>True,A:=fun _=>none,ds:=[],tsz:=0,rnd:=false }
def Mine (m:M) (top:List Blk) (k:Nat):Prop:=∃ i b v,top[i]? = some b/\b.live=true/\m.ρ 0 i=some v/\b.has m.w v k
structure Since (m0:M0) (m:M) (top:List Blk):Prop where
 os:m.w.os=m0.w.os
 tape:m.w.tape=m0.w.tape
 output:m.w.output=m0.w.output
 size:m0.w.heap.size<=m.w.heap.size
 heap:∀ k,k < m0.w.heap.size -> ¬ Mine m0.toM m0.g k -> ¬ m0.V k->m.w.heap[k]? = m0.w.heap[k]?
 up:∀ l i,m.ρ (l+1) i=m0.ρ (l+1) i
 U:∀ k,k < m0.w.heap.size->(m.U k↔m0.U k)
 fresh:∀ k,Mine m top k->m0.w.heap.size<=k\/Mine m0.toM m0.g k
@[irreducible] def aE (C:Cx) (H:List (List Blk)) (f:Nat) (G:List RowB) (args:List PV) (G':List (Option RowB)) (r:PV) (N:List RowB):Prop:=
  G'.length=G.length /\ ∀ (m:M) (vs:Array Value),Inv m (G.map RowB.blk) H->(∀ i,G.length<=i->m.ρ 0 i=none)->args.length=vs.size->(∀ (j:Nat) p v,args[j]? = some p->vs[j]? = some v->RP m p v) ->
   Calls C.P f vs m.w fun e w'=>∃ v m',e = .returned v/\m'.w=w'/\Since (M0.of m (G.map RowB.blk)) m' (N.map RowB.blk++G'.map gblk)/\(∀ i,i < G.length->m'.ρ 0 (N.length+i)=m.ρ 0 i)/\Inv m' (N.map RowB.blk++G'.map gblk) H/\RP m' r v
def argsF (one:PV->List Nat->(PV->List Nat->Prop)->Prop) (ps:List PV) (bs:List Nat) (K:List PV->List Nat->Prop):Prop:=
 List.rec (motive:=fun _=>List Nat->(List PV->List Nat->Prop)->Prop) (fun bs K=>K [] bs) (fun p _ ih bs K=>one p bs fun p' bs'=>ih bs' fun ps' bs''=>K (p'::ps') bs'') ps bs K
theorem argsF_cons (one:PV->List Nat->(PV->List Nat->Prop)->Prop) (p:PV) (ps:List PV) (bs:List Nat) (K:List PV->List Nat->Prop):argsF one (p::ps) bs K=one p bs fun p' bs'=>argsF one ps bs' fun ps' bs''=>K (p'::ps') bs'':=rfl
def argOne (top:List Blk) (one:PV->List Nat->(PV->List Nat->Prop)->Prop) (p:PV) (bs:List Nat) (K:PV->List Nat->Prop):Prop:=
 match p with
 | .any=>K .any bs
 | .kb b=>K (.d (.bool b)) bs
 | .ub=>K .ub bs
 | .d x=>K (.d x) bs
 | .nils=>K (.d (.sl [])) bs
 | .emp=>K (.d (.sl [])) bs
 | .row 0 i n=>getK top i fun b=>match b with
   | .row _ _ xs=>K (.d (.sl (xs.take n))) (i::bs)
   | .deep _ _ xs=>n=xs.length/\K (.d (.sl (plRows xs))) (i::bs)
   | .sub p e c=>ownAtK top p e c fun _ _ ys=>n=ys.length/\K (.d (.sl (plRows ys))) (p::bs)
   | _=>False
 | .row (_+1) _ _=>False
 | .ptr l i o=>K (.ptr (l+1) i o) bs
 | .rptr _ _ _ _ _=>False
 | .iptr cs=>K (.iptr cs) bs
 | .func fn fs cs=>argsF one fs bs fun fs' bs'=>argsF one cs bs' fun cs' bs''=>K (.func fn fs' cs') bs''
 | .agg cs=>argsF one cs bs fun cs' bs'=>K (.agg cs') bs'
 | .tuple _=>False
 | .yld _=>False
 | .lits _=>False
def argF (top:List Blk) (n:Nat):PV->List Nat->(PV->List Nat->Prop)->Prop:=
 Nat.rec (motive:=fun _=>PV->List Nat->(PV->List Nat->Prop)->Prop) (fun _ _ _=>False) (fun _ ih=>argOne top ih) n
def argK (top:List Blk) (p:PV) (bs:List Nat) (K:PV->List Nat->Prop):Prop:=argF top 8 p bs K
def argsK (top:List Blk) (ps:List PV) (bs:List Nat) (K:List PV->List Nat->Prop):Prop:=argsF (argF top 8) ps bs K
def hideK (top:List Blk) (bs:List Nat) (K:List Blk->Prop):Prop:=
 List.rec (motive:=fun _=>(List Blk->Prop)->Prop) (fun K=>K top) (fun i _ ih K=>ih fun top'=>setK top' i .dead K) bs K
def adoptsF (one:PV->(PV->Prop)->Prop) (ps:List PV) (K:List PV->Prop):Prop:=
 List.rec (motive:=fun _=>(List PV->Prop)->Prop) (fun K=>K []) (fun p _ ih K=>one p fun p'=>ih fun ps'=>K (p'::ps')) ps K
theorem adoptsF_cons (one:PV->(PV->Prop)->Prop) (p:PV) (ps:List PV) (K:List PV->Prop):adoptsF one (p::ps) K=one p fun p'=>adoptsF one ps fun ps'=>K (p'::ps'):=rfl
def adoptOne (b n:Nat) (one:PV->(PV->Prop)->Prop) (p:PV) (K:PV->Prop):Prop:=
 match p with
 | .d x=>K (.d x)
 | .kb x=>K (.kb x)
 | .nils=>K .nils
 | .emp=>K .emp
 | .row 0 i m=>ifK (Nat.blt i n) (K (.row 0 (b+i) m))
 | .agg cs=>adoptsF one cs fun cs'=>K (.agg cs')
 | .tuple cs=>adoptsF one cs fun cs'=>K (.tuple cs')
 | .ptr 0 i o=>ifK (Nat.blt i n) (K (.ptr 0 (b+i) o))
 | .func fn fs cs=>adoptsF one fs fun fs'=>adoptsF one cs fun cs'=>K (.func fn fs' cs')
 | _=>False
def adoptF (b n k:Nat):PV->(PV->Prop)->Prop:=
 Nat.rec (motive:=fun _=>PV->(PV->Prop)->Prop) (fun _ _=>False) (fun _ ih=>adoptOne b n ih) k
def adoptK (b n:Nat) (p:PV) (K:PV->Prop):Prop:=adoptF b n 8 p K
def DV.flat:DV->Bool
 | .sl (_::_)=>false
 | .junk=>false
 | .val _=>false
 | _=>true
mutual
def PV.flat:PV->Bool
 | .d x=>x.flat
 | .agg cs=>flats cs
 | .tuple cs=>flats cs
 | .func _ fs cs=>flats fs&&flats cs
 | _=>true
def flats:List PV->Bool
 | []=>true
 | p::ps=>p.flat&&flats ps
end
def FlatN (N:List RowB):Prop:=∀ r ∈ N,Nat.ble 64 r.sz=false /\ ∀ x ∈ r.xs,∀ y ∈ x,y.flat=true
def LentOk (bs:List Nat) (r:PV) (N:List RowB):Prop:=
 match bs with
 | []=>True
 | _=>r.flat=true/\FlatN N
noncomputable def blksOf (N:List RowB):List Blk:=List.rec (motive:=fun _=>List Blk) [] (fun r _ ih=>r.blk::ih) N
def callK (C:Cx) (H:List (List Blk)) (top:List Blk) (f:Nat) (args:List PV) (K:PV->List Blk->Prop):Prop:=
 argsK top args [] fun args' bs=>hideK top bs fun top1=>
  ∃ r N,aD C (top1::H) f args' r N/\LentOk bs r N/\lenK top fun b=>lenK (blksOf N) fun n=>adoptK b n r fun r'=>appK top (blksOf N) fun top'=>K r' top'
@[irreducible] def gP (C:Cx) (f:Nat) (cs:List (Nat × Nat × List (List DV))) (ys:List DV):Prop:=
  ∀ (w:World) (ok:Nat->Prop) (us:Array Value),(∀ k,ok k->k < w.heap.size)->us.size=cs.length ->
    (∀ (j:Nat) c u,cs[j]? = some c->us[j]? = some u->RO w ok (.own c.1 c.2.1 c.2.2) u /\ ∀ k,Ins w (.own c.1 c.2.1 c.2.2) u k->k < w.heap.size) ->
    Calls C.P f #[.agg us] w fun e w'=>∃ vs:Array Value,e = .returned (.tuple vs)/\vs.size=ys.length/\(∀ (j:Nat) y v,ys[j]? = some y->vs[j]? = some v->RD w ok y v) /\
     w'.os=w.os/\w'.tape=w.tape/\w'.output=w.output/\w.heap.size<=w'.heap.size /\ ∀ k,k < w.heap.size->w'.heap[k]? = w.heap[k]?
def rowsOfK (top:List Blk) (ps:List PV) (K:List (Nat × Nat × List (List DV))->Prop):Prop:=
 List.rec (motive:=fun _=>(List (Nat × Nat × List (List DV))->Prop)->Prop) (fun K=>K []) (fun p _ ih K=>match p with
  | .row 0 i n=>getK top i fun b=>(match b with
    | .row e sz xs=>n=xs.length/\ih fun cs=>K ((e,sz,xs)::cs)
    | .deep e sz xs=>n=xs.length/\ih fun cs=>K ((e,sz,xs)::cs)
    | .sub p e c=>ownAtK top p e c fun e2 sz2 ys=>n=ys.length/\ih fun cs=>K ((e2,sz2,ys)::cs)
    | _=>False)
  | _=>False) ps K
theorem rowsOfK_cons (top:List Blk) (p:PV) (ps:List PV) (K:List (Nat × Nat × List (List DV))->Prop):rowsOfK top (p::ps) K=match p with
 | .row 0 i n=>getK top i fun b=>(match b with
   | .row e sz xs=>n=xs.length/\rowsOfK top ps fun cs=>K ((e,sz,xs)::cs)
   | .deep e sz xs=>n=xs.length/\rowsOfK top ps fun cs=>K ((e,sz,xs)::cs)
   | .sub p e c=>ownAtK top p e c fun e2 sz2 ys=>n=ys.length/\rowsOfK top ps fun cs=>K ((e2,sz2,ys)::cs)
   | _=>False)
 | _=>False:=rfl
def thruK (C:Cx) (top:List Blk) (f:Nat) (args:List PV) (K:PV->List Blk->Prop):Prop:=
 match args with
 | [.agg ps]=>rowsOfK top ps fun cs=>∃ ys,gP C f cs ys/\K (.tuple (dpv ys)) top
 | _=>False
def callsK (C:Cx) (H:List (List Blk)) (top:List Blk) (f:Nat) (args:List PV) (K:PV->List Blk->Prop):Prop:=
 match C.give.any (Nat.beq (f+2000)) with
 | true=>thruK C top f args K
 | false=>callK C H top f args K
def giveOneK (top:List Blk) (p:PV) (bs:List Nat) (K:PV->Option (Nat × RowB)->Prop):Prop:=
 match p with
 | .row 0 i n=>getK top i fun b=>match b with
    | .row e sz xs=>(match bs.any (Nat.beq i) with
       | true=>False
       | false=>(match Nat.beq sz 0 with
          | true=>False
          | false=>(match Nat.ble 64 sz with
             | true=>False
             | false=>lenK bs fun g=>K (.row 0 g n) (some (i,⟨e,sz,xs⟩)))))
    | .deep e sz xs=>(match bs.any (Nat.beq i) with
       | true=>False
       | false=>(match Nat.beq sz 0 with
          | true=>False
          | false=>lenK bs fun g=>K (.row 0 g n) (some (i,⟨e,sz+64,xs⟩))))
    | _=>False
 | .nils=>K .nils none
 | p=>argK top p [] fun p' b1=>match b1 with
     | []=>K p' none
     | _::_=>False
def giveCellsK (top:List Blk) (ps:List PV) (bs:List Nat) (K:List PV->List Nat->List RowB->Prop):Prop:=
 List.rec (motive:=fun _=>List Nat->(List PV->List Nat->List RowB->Prop)->Prop) (fun _ K=>K [] [] [])
  (fun p _ ih bs K=>giveOneK top p bs fun p' o=>match o with
    | some (i,r)=>snocK bs i fun bs1=>ih bs1 fun ps' bs' G=>K (p'::ps') (i::bs') (r::G)
    | none=>ih bs fun ps' bs' G=>K (p'::ps') bs' G) ps bs K
def giveRowsK (top:List Blk) (xs:List (List PV)) (bs:List Nat) (K:List (List PV)->List Nat->List RowB->Prop):Prop:=
 List.rec (motive:=fun _=>List Nat->(List (List PV)->List Nat->List RowB->Prop)->Prop) (fun _ K=>K [] [] [])
  (fun x _ ih bs K=>giveCellsK top x bs fun x' b1 G1=>appK bs b1 fun bs1=>ih bs1 fun xs' b2 G2=>appK b1 b2 fun b3=>appK G1 G2 fun G3=>K (x'::xs') b3 G3) xs bs K
theorem giveRowsK_cons (top:List Blk) (x:List PV) (xs:List (List PV)) (bs:List Nat) (K:List (List PV)->List Nat->List RowB->Prop):giveRowsK top (x::xs) bs K=giveCellsK top x bs fun x' b1 G1=>appK bs b1 fun bs1=>giveRowsK top xs bs1 fun xs' b2 G2=>appK b1 b2 fun b3=>appK G1 G2 fun G3=>K (x'::xs') b3 G3:=rfl
def giveArgK (top:List Blk) (p:PV) (bs:List Nat) (K:PV->List Nat->List RowB->Prop):Prop:=
 match p with
 | .agg cs=>giveCellsK top cs bs fun cs' b1 G1=>K (.agg cs') b1 G1
 | .lits xs=>giveRowsK top xs bs fun xs' b1 G1=>K (.lits xs') b1 G1
 | p=>giveCellsK top [p] bs fun cs' b1 G1=>match cs' with | [p']=>K p' b1 G1 | _=>False
def giveArgsK (top:List Blk) (ps:List PV) (bs:List Nat) (K:List PV->List Nat->List RowB->Prop):Prop:=
 List.rec (motive:=fun _=>List Nat->(List PV->List Nat->List RowB->Prop)->Prop) (fun _ K=>K [] [] [])
  (fun p _ ih bs K=>giveArgK top p bs fun p' b1 G1=>appK bs b1 fun bs1=>ih bs1 fun ps' b2 G2=>appK b1 b2 fun b3=>appK G1 G2 fun G3=>K (p'::ps') b3 G3) ps bs K
theorem giveArgsK_cons (top:List Blk) (p:PV) (ps:List PV) (bs:List Nat) (K:List PV->List Nat->List RowB->Prop):giveArgsK top (p::ps) bs K=giveArgK top p bs fun p' b1 G1=>appK bs b1 fun bs1=>giveArgsK top ps bs1 fun ps' b2 G2=>appK b1 b2 fun b3=>appK G1 G2 fun G3=>K (p'::ps') b3 G3:=rfl
def backK (top:List Blk) (is:List Nat) (gs:List (Option RowB)) (K:List Blk->Prop):Prop:=
 List.rec (motive:=fun _=>List (Option RowB)->(List Blk->Prop)->Prop) (fun gs K=>List.rec (motive:=fun _=>Prop) (K top) (fun _ _ _=>False) gs)
  (fun i _ ih gs K=>List.rec (motive:=fun _=>Prop) False (fun g gs _=>ih gs fun top'=>setK top' i (gblk g) K) gs) is gs K
noncomputable def noSubsB (bs:List Nat) (top:List Blk):Bool:=List.rec (motive:=fun _=>Bool) true (fun b _ ih=>match b with | .sub p _ _=>(match bs.any (Nat.beq p) with | true=>false | false=>ih) | .dead=>ih | .box _=>ih | .row _ _ _=>ih | .gen _ _=>ih | .deep _ _ _=>ih) top
def giveK (C:Cx) (H:List (List Blk)) (top:List Blk) (f:Nat) (args:List PV) (K:PV->List Blk->Prop):Prop:=
 giveArgsK top args [] fun args' bs G=>ifK (noSubsB bs top) <| hideK top bs fun top1=>
  ∃ r G' N,aE C (top1::H) f G args' G' r N/\lenK top fun b=>lenK (blksOf N) fun n=>adoptK b n r fun r'=>backK top bs G' fun top2=>appK top2 (blksOf N) fun top'=>K r' top'
def cmpK (args:List PV) (K:PV->Prop):Prop:=
 match args with
 | [.d (.sl xs),.d (.sl ys)]=>∃ aas bs:List UInt8,xs=aas.map (fun b=>[DV.int .u8 b.toNat])/\ys=bs.map (fun b=>[DV.int .u8 b.toNat])/\K (.d (.int .i64 (Extern.BytealgCompare.cmp ⟨aas.toArray⟩ ⟨bs.toArray⟩)))
 | _=>False
noncomputable def growAt (l:List (Nat × Nat)) (g:Nat):Option Nat:=
 List.rec (motive:=fun _=>Option Nat) none (fun p _ ih=>match Nat.beq p.1 g with | true=>some p.2 | false=>ih) l
def growK (C:Cx) (top:List Blk) (e:Nat) (args:List PV) (K:PV->List Blk->Prop):Prop:=
 match args with
 | [.nils,.d (.int k n)]=>ifK (kEq k .i64) (0<=n/\lookK C.L e fun r=>ifK (Nat.blt 0 r.size) (lenK r.zero fun z=>ifK (Nat.beq z r.size)
     (n*(r.bytes:Int)<=140737488355328/\n<=4611686018427387904/\(n=0->K .nils top)/\(0 < n->newK top (.row e r.size []) fun i top'=>K (.row 0 i 0) top'))))
 | _=>False
def viewsK (top:List Blk) (i e:Nat) (ys:List DV) (j:Nat) (K:List PV->List Blk->Prop):Prop:=
 List.rec (motive:=fun _=>List Blk->Nat->(List PV->List Blk->Prop)->Prop) (fun top _ K=>K [] top)
  (fun y _ ih top j K=>match y with
    | .own _ _ zs=>newK top (.sub i e j) fun i' top'=>ih top' (j+1) fun ps top2=>K (.row 0 i' zs.length::ps) top2
    | .bool b=>ih top (j+1) fun ps top2=>K (.d (.bool b)::ps) top2
    | .int k n=>ih top (j+1) fun ps top2=>K (.d (.int k n)::ps) top2
    | .str s=>ih top (j+1) fun ps top2=>K (.d (.str s)::ps) top2
    | .sl xs=>ih top (j+1) fun ps top2=>K (.d (.sl xs)::ps) top2
    | .junk=>ih top (j+1) fun ps top2=>K (.d .junk::ps) top2
    | .val v=>ih top (j+1) fun ps top2=>K (.d (.val v)::ps) top2) ys top j K
theorem viewsK_cons (top:List Blk) (i e:Nat) (y:DV) (ys:List DV) (j:Nat) (K:List PV->List Blk->Prop):viewsK top i e (y::ys) j K=match y with
 | .own _ _ zs=>newK top (.sub i e j) fun i' top'=>viewsK top' i e ys (j+1) fun ps top2=>K (.row 0 i' zs.length::ps) top2
 | .bool b=>viewsK top i e ys (j+1) fun ps top2=>K (.d (.bool b)::ps) top2
 | .int k n=>viewsK top i e ys (j+1) fun ps top2=>K (.d (.int k n)::ps) top2
 | .str s=>viewsK top i e ys (j+1) fun ps top2=>K (.d (.str s)::ps) top2
 | .sl xs=>viewsK top i e ys (j+1) fun ps top2=>K (.d (.sl xs)::ps) top2
 | .junk=>viewsK top i e ys (j+1) fun ps top2=>K (.d .junk::ps) top2
 | .val v=>viewsK top i e ys (j+1) fun ps top2=>K (.d (.val v)::ps) top2:=rfl
def noOwn:DV->Bool
 | .own _ _ _=>false
 | _=>true
noncomputable def noOwns (ys:List DV):Bool:=List.rec (motive:=fun _=>Bool) true (fun y _ ih=>match noOwn y with | true=>ih | false=>false) ys
def ldK (C:Cx) (H:List (List Blk)) (top:List Blk) (t:Nat) (p:PV) (K:PV->List Blk->Prop):Prop:=
 match p with
 | .rptr 0 i sz e j=>getK top i fun b=>(match b with
   | .deep _ sz' xs=>ifK (Nat.beq sz' sz) (∃ x,xs[e]? = some x/\lookK C.L t fun r=>subK x j r.size fun ys=>viewsK top i e ys j fun ps top'=>wholeK r ps fun q=>K q top')
   | .sub p' e' c'=>ownAtK top p' e' c' fun _ sz2 ys2=>ifK (Nat.beq sz2 sz) (∃ x,ys2[e]? = some x/\lookK C.L t fun r=>subK x j r.size fun ys=>ifK (noOwns ys) (pvsK ys fun ps=>wholeK r ps fun q=>K q top))
   | _=>loadK C H top t p fun q=>K q top)
 | _=>loadK C H top t p fun q=>K q top
def plainK (C:Cx) (tm:List PV) (top:List Blk) (t n:Nat) (parts:List (Nat × Operand)) (K:PV->List Blk->Prop):Prop:=
 lookK C.L t fun r=>(match r.ty with
  | .slice e=>lookK C.L e fun r'=>ifK (Nat.blt 0 r'.size) (ifK (Nat.ble (n*r'.size) 16777216) (elemsK tm r'.size 0 parts fun es=>
     lenK es fun k=>ifK (Nat.beq k n) (match n with
      | 0=>(match C.frz with | true=>K .emp top | false=>newK top (.row e r'.size es) fun i top'=>K (.row 0 i n) top')
      | _+1=>K (.d (.sl es)) top)))
  | _=>False)
def opK (C:Cx) (H:List (List Blk)) (op:Op) (tm:List PV) (top:List Blk) (K:PV->List Blk->Prop):Prop:=
 match op with
 | .move x=>evK tm x fun p=>K p top
 | .assign x=>evK tm x fun p=>K p top
 | .pick c a b=>evK tm c fun c=>(match c with
    | .kb true=>evK tm a fun p=>K p top
    | .kb false=>evK tm b fun p=>K p top
    | c=>evK tm a fun p=>evK tm b fun q=>pickK c p q fun r=>K r top)
 | .alloc e=>lookK C.L e fun r=>newK top (.box r.zero) fun i top'=>K (.ptr 0 i 0) top'
 | .box _ x=>evK tm x fun p=>cellsK p fun cs=>newK top (.box cs) fun i top'=>K (.ptr 0 i 0) top'
 | .build t parts=>lookK C.L t fun r=>ifK r.ty.isAgg (buildK C tm (placeK C r.ty) parts.toList r.zero fun cs=>K (.agg cs) top)
 | .buildSlice t n parts=>(match anyRow tm parts.toList with
    | true=>litsK C tm t n parts.toList fun q=>K q top
    | false=>plainK C tm top t n parts.toList K)
 | .load t a=>evK tm a fun p=>ldK C H top t p K
 | .fieldAddr t x fld=>evK tm x fun p=>fieldK C t p fld fun q=>K q top
 | .indexAddr t x ix=>evK tm x fun p=>evK tm ix fun i=>(match i with | .d (.int _ n)=>idxK C H top t p n fun q=>K q top | _=>False)
 | .index t x ix=>evK tm x fun p=>evK tm ix fun i=>(match p,i with
    | .agg cs,.d (.int _ n)=>lookK C.L t fun r=>(match r.ty with
       | .arr len e=>0<=n/\n < (len:Int)/\lookK C.L e fun r'=>subK cs (n.toNat*r'.size) r'.size fun ys=>wholeK r' ys fun q=>K q top
       | _=>False)
    | _,_=>False)
 | .makeSlice t l c=>evK tm l fun pl=>evK tm c fun pc=>(match pl,pc with
    | .d (.int _ n),.d (.int _ n')=>lookK C.L t fun r=>(match r.ty with
       | .slice e=>lookK C.L e fun r'=>ifK (Nat.blt 0 r'.size) (dvsK r'.zero fun zs=>lenK zs fun k=>ifK (Nat.beq k r'.size)
          (n=n'/\0<=n/\(r'.bytes:Int)*n<=281474976710656/\n<=9223372036854775807/\newK top (.row e r'.size (List.replicate n.toNat zs)) fun i top'=>K (.row 0 i n.toNat) top'))
       | _=>False)
    | _,_=>False)
 | .binOp op t x y _=>evK tm x fun p=>evK tm y fun q=>binK C op t p q fun r=>K r top
 | .unOp .not _ x=>evK tm x fun p=>(match p with | .ub=>K .ub top | .kb b=>K (.kb (!b)) top | .d (.bool b)=>K (.d (.bool (!b))) top | _=>False)
 | .convert s d x=>evK tm x fun p=>convK C s d p fun q=>K q top
 | .slice t x lo hi none=>evK tm x fun p=>optEvK tm lo fun l=>optEvK tm hi fun h=>slTyK C t p l h fun q=>K q top
 | .makeFunc fn fs cs=>evsK tm fs.toList fun fs'=>evsK tm cs.toList fun cs'=>K (.func fn fs' cs') top
 | .extract x i=>evK tm x fun p=>(match p with | .tuple cs=>getK cs i fun q=>K q top | _=>False)
 | .call c=>(match c.callee with
    | .builtin .len=>(match c.args.toList,c.argTypes.toList with
       | [x],[t]=>evK tm x fun p=>lookK C.L t fun r=>(match p with
           | .d (.sl xs)=>ifK r.ty.isSlice (K (.d (.int .i64 xs.length)) top)
           | .nils=>ifK r.ty.isSlice (K (.d (.int .i64 0)) top)
           | .emp=>ifK r.ty.isSlice (K (.d (.int .i64 0)) top)
           | .row _ _ n=>ifK r.ty.isSlice (K (.d (.int .i64 n)) top)
           | .d (.str s)=>(match r.ty with | .str=>K (.d (.int .i64 s.size)) top | _=>False)
           | _=>False)
       | _,_=>False)
    | .builtin .min=>(match c.args.toList with
       | [x,y]=>evK tm x fun p=>evK tm y fun q=>(match p,q with
           | .d (.int k a),.d (.int _ b)=>∀ z,z=min a b->K (.d (.int k z)) top
           | _,_=>False)
       | _=>False)
    | .value f=>evK tm f fun p=>(match p with
       | .func (.func g) fs cs=>evsK tm c.args.toList fun aas=>appK fs aas fun l1=>appK l1 cs fun l2=>(match C.cmp.any (Nat.beq g) with
          | true=>cmpK l2 fun p=>K p top
          | false=>ifK (C.plain g) (match growAt C.grow g with
            | some e=>growK C top e l2 K
            | none=>callsK C H top g l2 K))
       | _=>False)
    | _=>False)
 | _=>False
def killK (i:Nat) (top:List Blk) (K:List Blk->Prop):Prop:=
 List.rec (motive:=fun _=>(List Blk->Prop)->Prop) (fun K=>K []) (fun b _ ih K=>match b with
  | .sub p e c=>(match Nat.beq p i with | true=>ih fun bs=>K (.dead::bs) | false=>ih fun bs=>K (.sub p e c::bs))
  | .dead=>ih fun bs=>K (.dead::bs)
  | .box cs=>ih fun bs=>K (.box cs::bs)
  | .row a b xs=>ih fun bs=>K (.row a b xs::bs)
  | .gen Y st=>ih fun bs=>K (.gen Y st::bs)
  | .deep a b xs=>ih fun bs=>K (.deep a b xs::bs)) top K
theorem killK_cons (i:Nat) (b:Blk) (top:List Blk) (K:List Blk->Prop):killK i (b::top) K=match b with
 | .sub p e c=>(match Nat.beq p i with | true=>killK i top fun bs=>K (.dead::bs) | false=>killK i top fun bs=>K (.sub p e c::bs))
 | .dead=>killK i top fun bs=>K (.dead::bs)
 | .box cs=>killK i top fun bs=>K (.box cs::bs)
 | .row a b xs=>killK i top fun bs=>K (.row a b xs::bs)
 | .gen Y st=>killK i top fun bs=>K (.gen Y st::bs)
 | .deep a b xs=>killK i top fun bs=>K (.deep a b xs::bs):=rfl
def ownsK (top:List Blk) (cs:List PV) (js:List Nat) (K:List DV->List Nat->Prop):Prop:=
 List.rec (motive:=fun _=>List Nat->(List DV->List Nat->Prop)->Prop) (fun _ K=>K [] [])
  (fun p _ ih js K=>match p with
    | .row 0 j n=>(match js.any (Nat.beq j) with
      | true=>False
      | false=>getK top j fun b=>(match b with
        | .row e sz ys=>n=ys.length/\ih (j::js) fun ds l=>K (.own e sz ys::ds) (j::l)
        | .deep e sz ys=>n=ys.length/\ih (j::js) fun ds l=>K (.own e sz ys::ds) (j::l)
        | _=>False))
    | p=>dvK p fun x=>ih js fun ds l=>K (x::ds) l) cs js K
theorem ownsK_cons (top:List Blk) (p:PV) (cs:List PV) (js:List Nat) (K:List DV->List Nat->Prop):ownsK top (p::cs) js K=match p with
 | .row 0 j n=>(match js.any (Nat.beq j) with
   | true=>False
   | false=>getK top j fun b=>(match b with
     | .row e sz ys=>n=ys.length/\ownsK top cs (j::js) fun ds l=>K (.own e sz ys::ds) (j::l)
     | .deep e sz ys=>n=ys.length/\ownsK top cs (j::js) fun ds l=>K (.own e sz ys::ds) (j::l)
     | _=>False))
 | p=>dvK p fun x=>ownsK top cs js fun ds l=>K (x::ds) l:=rfl
def moveK (C:Cx) (top:List Blk) (t i sz e c:Nat) (v:PV) (K:List Blk->Prop):Prop:=
 lookK C.L t fun r=>cellsK v fun cs=>allCellK cs (lenK cs fun n=>ifK (Nat.beq n r.size) (ownsK top cs [i] fun ds js=>getK top i fun b=>(match b with
  | .row t' sz' xs=>ifK (Nat.beq sz' sz) (∃ x,xs[e]? = some x/\putK x c ds fun x'=>killK i top fun top1=>setK top1 i (.deep t' sz' (xs.set e x')) fun top2=>hideK top2 js K)
  | .deep t' sz' xs=>ifK (Nat.beq sz' sz) (∃ x,xs[e]? = some x/\putK x c ds fun x'=>killK i top fun top1=>setK top1 i (.deep t' sz' (xs.set e x')) fun top2=>hideK top2 js K)
  | _=>False)))
def storeK0 (C:Cx) (top:List Blk) (t:Nat) (p v:PV) (K:List Blk->Prop):Prop:=
 lookK C.L t fun r=>cellsK v fun cs=>allCellK cs (lenK cs fun n=>ifK (Nat.beq n r.size) (match p with
  | .ptr 0 i o=>getK top i fun b=>(match b with | .box bs=>putK bs o cs fun bs'=>setK top i (.box bs') K | _=>False)
  | .rptr 0 i sz e j=>getK top i fun b=>(match b with
     | .row t' sz' xs=>ifK (Nat.beq sz' sz) (dvsK cs fun ds=>∃ x,xs[e]? = some x/\putK x j ds fun x'=>setK top i (.row t' sz' (xs.set e x')) K)
     | .sub p' e' c'=>getK top p' fun b'=>(match b' with
       | .deep t0 sz0 xs0=>∃ x0,xs0[e']? = some x0/\getK x0 c' fun y=>(match y with
         | .own e2 sz2 ys2=>ifK (Nat.beq sz2 sz) (dvsK cs fun ds=>∃ x,ys2[e]? = some x/\putK x j ds fun x'=>putK x0 c' [.own e2 sz2 (ys2.set e x')] fun x0'=>setK top p' (.deep t0 sz0 (xs0.set e' x0')) K)
         | _=>False)
       | _=>False)
     | _=>False)
  | _=>False))
def takeOneK (C:Cx) (top:List Blk) (j:Nat) (K:List Blk->Prop):Prop:=
 killK j top fun top0=>getK top0 j fun b=>match b with
  | .sub p e c=>getK top0 p fun b'=>(match b' with
    | .deep t0 sz0 xs0=>∃ x0,xs0[e]? = some x0/\getK x0 c fun y=>(match y with
      | .own e2 sz2 ys=>setK x0 c .junk fun x0'=>setK top0 p (.deep t0 sz0 (xs0.set e x0')) fun top1=>(match C.mv.any (Nat.beq e2) with
         | true=>setK top1 j (.deep e2 sz2 ys) K
         | false=>(∀ x ∈ ys,∀ y ∈ x,noOwn y=true)/\setK top1 j (.row e2 sz2 ys) K)
      | _=>K top0)
    | _=>K top0)
  | _=>K top0
def takesF (one:PV->List Blk->(List Blk->Prop)->Prop) (ps:List PV) (top:List Blk) (K:List Blk->Prop):Prop:=
 List.rec (motive:=fun _=>List Blk->Prop) (fun top=>K top) (fun p _ ih top=>one p top ih) ps top
theorem takesF_cons (one:PV->List Blk->(List Blk->Prop)->Prop) (p:PV) (ps:List PV) (top:List Blk) (K:List Blk->Prop):takesF one (p::ps) top K=one p top fun top'=>takesF one ps top' K:=rfl
def takesL (one:PV->List Blk->(List Blk->Prop)->Prop) (xs:List (List PV)) (top:List Blk) (K:List Blk->Prop):Prop:=
 List.rec (motive:=fun _=>List Blk->Prop) (fun top=>K top) (fun x _ ih top=>takesF one x top ih) xs top
theorem takesL_cons (one:PV->List Blk->(List Blk->Prop)->Prop) (x:List PV) (xs:List (List PV)) (top:List Blk) (K:List Blk->Prop):takesL one (x::xs) top K=takesF one x top fun top'=>takesL one xs top' K:=rfl
def takeP (C:Cx) (one:PV->List Blk->(List Blk->Prop)->Prop) (p:PV) (top:List Blk) (K:List Blk->Prop):Prop:=
 match p with
 | .row 0 j _=>takeOneK C top j K
 | .agg cs=>takesF one cs top K
 | .tuple cs=>takesF one cs top K
 | .lits xs=>takesL one xs top K
 | _=>K top
def takeF (C:Cx) (n:Nat):PV->List Blk->(List Blk->Prop)->Prop:=
 Nat.rec (motive:=fun _=>PV->List Blk->(List Blk->Prop)->Prop) (fun _ top K=>K top) (fun _ ih=>takeP C ih) n
def takesK (C:Cx) (ps:List PV) (top:List Blk) (K:List Blk->Prop):Prop:=takesF (takeF C 3) ps top K
def storeK (C:Cx) (top:List Blk) (t:Nat) (p v:PV) (K:List Blk->Prop):Prop:=
 match C.mv.any (Nat.beq t) with
 | true=>(match p with
   | .rptr 0 i sz e c=>takesK C [v] top fun top1=>moveK C top1 t i sz e c v K
   | _=>storeK0 C top t p v K)
 | false=>storeK0 C top t p v K
def newsK (top:List Blk) (sz:Nat) (x:PV) (K:List (List DV)->Prop):Prop:=
 match x with
 | .nils=>K []
 | .emp=>K []
 | .d (.sl ys)=>(∀ y ∈ ys,y.length=sz)/\K ys
 | .row 0 j n=>getK top j fun b=>(match b with | .row _ sz' ys=>ifK (Nat.beq sz' sz) (K (ys.take n)) | _=>False)
 | _=>False
def appendK (C:Cx) (top:List Blk) (t:Nat) (s x:PV) (K:PV->List Blk->Prop):Prop:=
 lookK C.L t fun r=>(match r.ty with
  | .slice e=>lookK C.L e fun r'=>ifK (Nat.blt 0 r'.size) (ifK (Nat.blt 0 r'.bytes) (lenK r'.zero fun z=>ifK (Nat.beq z r'.size) (newsK top r'.size x fun ys=>(match s with
    | .nils=>ys.length*r'.bytes<=140737488355328/\newK top (.row e r'.size ys) fun i top'=>K (.row 0 i ys.length) top'
    | .emp=>ys.length*r'.bytes<=140737488355328/\K (.d (.sl ys)) top
    | .row 0 i n=>getK top i fun b=>(match b with
       | .row e' sz xs=>ifK (Nat.beq e' e) <| ifK (Nat.beq sz r'.size) <| n=xs.length/\(n+ys.length)*r'.bytes<=140737488355328/\setK top i .dead fun top1=>newK top1 (.row e sz (xs++ys)) fun i' top'=>K (.row 0 i' (n+ys.length)) top'
       | _=>False)
    | _=>False))))
  | _=>False)
def appDeepK (C:Cx) (top:List Blk) (t:Nat) (s:PV) (xs:List (List PV)) (K:PV->List Blk->Prop):Prop:=
 lookK C.L t fun r=>(match r.ty with
  | .slice e=>lookK C.L e fun r'=>ifK (Nat.blt 0 r'.size) (ifK (Nat.blt 0 r'.bytes) (lenK r'.zero fun z=>ifK (Nat.beq z r'.size) (match xs,s with
    | [cs],.row 0 i n=>getK top i fun b=>(match b with
        | .deep e' sz ys=>ifK (Nat.beq e' e) <| ifK (Nat.beq sz r'.size) <| n=ys.length/\(n+1)*r'.bytes<=140737488355328/\lenK cs fun k=>ifK (Nat.beq k sz) (allCellK cs (ownsK top cs [i] fun ds js=>hideK top js fun top1=>setK top1 i .dead fun top2=>newK top2 (.deep e sz (ys ++ [ds])) fun i' top'=>K (.row 0 i' (n+1)) top'))
        | _=>False)
    | _,_=>False)))
  | _=>False)
def appendsK (C:Cx) (top:List Blk) (t:Nat) (s x:PV) (K:PV->List Blk->Prop):Prop:=
 match x with
 | .lits xs=>takesK C [s,x] top fun top1=>appDeepK C top1 t s xs K
 | _=>appendK C top t s x K
def copyK (C:Cx) (top:List Blk) (t:Nat) (s x:PV) (K:PV->List Blk->Prop):Prop:=
 lookK C.L t fun r=>(match r.ty with
  | .slice e=>lookK C.L e fun r'=>ifK (Nat.blt 0 r'.size) (newsK top r'.size x fun ys=>(match s with
    | .row 0 i n=>getK top i fun b=>(match b with
       | .row e' sz xs=>ifK (Nat.beq sz r'.size) <| n=xs.length/\ys.length=xs.length/\setK top i (.row e' sz ys) fun top1=>K (.d (.int .i64 n)) top1
       | _=>False)
    | _=>False))
  | _=>False)
def litDeepK (C:Cx) (tm:List PV) (top:List Blk) (t n:Nat) (parts:List (Nat × Operand)) (K:PV->List Blk->Prop):Prop:=
 lookK C.L t fun r=>(match r.ty with
  | .slice e=>lookK C.L e fun r'=>ifK (Nat.blt 0 r'.size) (ifK (Nat.ble (n*r'.size) 16777216) (elemsP tm r'.size 0 parts fun es=>lenK es fun k=>ifK (Nat.beq k n) (match es with
     | [cs]=>allCellK cs (ownsK top cs [] fun ds js=>hideK top js fun top2=>newK top2 (.deep e r'.size [ds]) fun i top'=>K (.row 0 i 1) top')
     | _=>False)))
  | _=>False)
def actK (C:Cx) (H:List (List Blk)) (op:Op) (tm:List PV) (top:List Blk) (K:PV->List Blk->Prop):Prop:=
 match op with
 | .store t a v=>evK tm a fun p=>evK tm v fun q=>storeK C top t p q fun top'=>K .any top'
 | .buildSlice t n parts=>(match C.give.any (Nat.beq (t+1000)) with
    | true=>litDeepK C tm top t n parts.toList K
    | false=>opK C H (.buildSlice t n parts) tm top K)
 | .call c=>(match c.callee with
    | .builtin .append=>(match c.args.toList,c.argTypes.toList with
       | [s,x],[t,t']=>ifK (Nat.beq t t') (evK tm s fun p=>evK tm x fun q=>appendsK C top t p q K)
       | _,_=>False)
    | .builtin .copy=>(match c.args.toList,c.argTypes.toList with
       | [s,x],[t,t']=>ifK (Nat.beq t t') (evK tm s fun p=>evK tm x fun q=>copyK C top t p q K)
       | _,_=>False)
    | .value (.func f)=>(match C.give.any (Nat.beq f) with
       | true=>evsK tm c.args.toList fun aas=>ifK (C.plain f) (takesK C aas top fun top1=>giveK C H top1 f aas K)
       | false=>opK C H (.call c) tm top K)
    | _=>opK C H (.call c) tm top K)
 | op=>opK C H op tm top K
def wantK (ops:List Oper) (o:Oper) (tm:List PV) (K:Bool->List PV->Prop):Prop:=
 match o.guard with
 | none=>K true tm
 | some (j,b)=>getK ops j fun o'=>(match o'.dst with
   | none=>False
   | some d=>getK tm d fun p=>(match p with
     | .kb x=>K (x==b) tm
     | .tuple []=>K false tm
     | .d (.bool x)=>(x=b->setK tm d (.kb b) (K true))/\(x = !b->setK tm d (.kb !b) (K false))
     | _=>False))
def putDst (o:Oper) (tm:List PV) (p:PV) (K:List PV->Prop):Prop:=
 match o.dst with
 | none=>K tm
 | some d=>setK tm d p K
def actF (C:Cx) (H:List (List Blk)) (es:List Nat) (op:Op) (tm:List PV) (top:List Blk) (K:PV->List Blk->Prop):Prop:=
 match es with
 | []=>actK C H op tm top K
 | e::es=>(match op with
   | .call c=>(match c.callee with
     | .builtin .append=>(match c.args.toList with
       | .tmp t::_=>(match (e::es).any (Nat.beq t) with
         | true=>getK tm t fun p=>(match p with | .emp=>actK C H (.call c) tm top K | _=>False)
         | false=>actK C H (.call c) tm top K)
       | _=>actK C H (.call c) tm top K)
     | _=>actK C H (.call c) tm top K)
   | op=>actK C H op tm top K)
def opsK (C:Cx) (H:List (List Blk)) (es:List Nat) (ops l:List Oper) (tm:List PV) (top:List Blk) (K:List PV->List Blk->Prop):Prop:=
 List.rec (motive:=fun _=>List PV->List Blk->Prop) (fun tm top=>K tm top) (fun o _ ih tm top=>wantK ops o tm fun w tm1=>(match w with
  | true=>actF C H es o.op tm1 top fun p top'=>putDst o tm1 p fun tm'=>ih tm' top'
  | false=>putDst o tm1 (.tuple []) fun tm'=>ih tm' top)) l tm top
mutual
def ren (s:List Nat):PV->PV
 | .row 0 i n=>.row 0 (s.getD i 0) n
 | .ptr 0 i o=>.ptr 0 (s.getD i 0) o
 | .rptr 0 i sz e j=>.rptr 0 (s.getD i 0) sz e j
 | .func fn fs cs=>.func fn (rens s fs) (rens s cs)
 | .agg cs=>.agg (rens s cs)
 | .tuple cs=>.tuple (rens s cs)
 | p=>p
def rens (s:List Nat):List PV->List PV
 | []=>[]
 | p::ps=>ren s p::rens s ps
end
mutual
def inN (n:Nat):PV->Bool
 | .row 0 i _=>Nat.blt i n
 | .ptr 0 i _=>Nat.blt i n
 | .rptr 0 i _ _ _=>Nat.blt i n
 | .func _ fs cs=>insN n fs&&insN n cs
 | .agg cs=>insN n cs
 | .tuple cs=>insN n cs
 | .lits _=>false
 | _=>true
def insN (n:Nat):List PV->Bool
 | []=>true
 | p::ps=>inN n p&&insN n ps
end
def refO (s:List Nat) (n nt:Nat) (p q:PV):Prop:=
 match q with
 | .any=>True
 | .ub=>(match p with | .ub=>True | .kb _=>True | .d (.bool _)=>True | _=>False)
 | .kb b=>p = .kb b
 | .nils=>p = .nils
 | .d y=>(match p with | .d x=>x=y | .kb b=>DV.bool b=y | .nils=>DV.sl []=y | .emp=>DV.sl []=y | _=>False)
 | .row l i k=>(match p with
   | .nils=>(match l with | 0=>(Nat.beq k 0&&(Nat.blt i n&&Nat.ble nt (s.getD i 0)))=true | _=>False)
   | p=>inN n (.row l i k)=true/\p=ren s (.row l i k))
 | q=>inN n q=true/\p=ren s q
def refs (one:PV->PV->Prop) (ps qs:List PV):Prop:=
 List.rec (motive:=fun _=>List PV->Prop) (fun qs=>List.rec (motive:=fun _=>Prop) True (fun _ _ _=>False) qs)
  (fun p _ ih qs=>List.rec (motive:=fun _=>Prop) False (fun q qs _=>one p q/\ih qs) qs) ps qs
theorem refs_cons (one:PV->PV->Prop) (p:PV) (ps:List PV) (q:PV) (qs:List PV):refs one (p::ps) (q::qs)=(one p q/\refs one ps qs):=rfl
def refStep (s:List Nat) (n nt:Nat) (ih:PV->PV->Prop) (p q:PV):Prop:=
 match q with
 | .tuple qs=>(match p with | .tuple ps=>refs ih ps qs | _=>False)
 | .agg qs=>(match p with | .agg ps=>refs ih ps qs | _=>False)
 | q=>refO s n nt p q
def refF (s:List Nat) (n nt k:Nat):PV->PV->Prop:=
 Nat.rec (motive:=fun _=>PV->PV->Prop) (fun p q=>refO s n nt p q) (fun _ ih p q=>refStep s n nt ih p q) k
def refP (s:List Nat) (n nt:Nat) (p q:PV):Prop:=refF s n nt 2 p q
def refT (s:List Nat) (n nt:Nat) (ps qs:List PV):Prop:=
 List.rec (motive:=fun _=>List PV->Prop) (fun qs=>List.rec (motive:=fun _=>Prop) True (fun _ _ _=>False) qs)
  (fun p _ ih qs=>List.rec (motive:=fun _=>Prop) False (fun q qs _=>refP s n nt p q/\ih qs) qs) ps qs
def refOne (s:List Nat) (n:Nat) (top:List Blk) (i j:Nat) (b:Blk):Prop:=
 match b with
 | .dead=>True
 | .gen Y st=>(match top[j]? with | some (.gen Y' st')=>Y'=Y/\st'=st | _=>False)
 | .row e sz xs=>(match top[j]? with | some (.row e' sz' xs')=>e'=e/\sz'=sz/\xs'=xs | none=>xs = []/\Nat.blt 0 sz=true | _=>False)
 | .box cs=>(match top[j]? with | some (.box cs')=>refT s n top.length cs' cs | _=>False)
 | .deep e sz xs=>(match top[j]? with | some (.deep e' sz' xs')=>e'=e/\sz'=sz/\xs'=xs | some (.row e' sz' xs')=>e'=e/\sz'=sz/\xs'=xs | none=>xs = []/\Nat.blt 0 sz=true | _=>False)
 | .sub p e c=>(match top[j]? with | some (.sub p' e' c')=>(Nat.blt p i&&(Nat.blt p n&&Nat.beq p' (s.getD p 0)))=true/\e'=e/\c'=c | _=>False)
def refBi (s:List Nat) (n:Nat) (top:List Blk) (i:Nat) (js:List Nat) (bs:List Blk):Prop:=
 List.rec (motive:=fun _=>Nat->List Blk->Prop) (fun _ bs=>List.rec (motive:=fun _=>Prop) True (fun _ _ _=>False) bs)
  (fun j _ ih i bs=>List.rec (motive:=fun _=>Prop) False (fun b bs _=>refOne s n top i j b/\ih (i+1) bs) bs) js i bs
def refB (s:List Nat) (n:Nat) (top:List Blk) (js:List Nat) (bs:List Blk):Prop:=refBi s n top 0 js bs
def nodupB:List Nat->Bool
 | []=>true
 | x::xs=>!(xs.any (Nat.beq x))&&nodupB xs
def Ref (s:List Nat) (tm:List PV) (top:List Blk) (tm':List PV) (top':List Blk):Prop:=
 nodupB s=true/\refT s s.length top.length tm tm'/\refB s s.length top s top'
structure LS where
 tm:List PV
 top:List Blk
@[irreducible] def oO (body:(Exit->List PV->List Blk->Prop)->List PV->List Blk->Prop) (K:Exit->List PV->List Blk->Prop) (tm:List PV) (top:List Blk):Prop:=
  ∃ (ι:Type) (S:ι->LS) (I:ι->Prop) (μ:ι->Nat),(∃ i s,I i/\Ref s tm top (S i).tm (S i).top) /\
    ∀ i,I i->body (fun e tm' top'=>match e with | .normal=>∃ i' s,I i'/\μ i' < μ i/\Ref s tm' top' (S i').tm (S i').top | e=>K e tm' top') (S i).tm (S i).top
@[irreducible] def kK (C:Cx) (f:Nat) (G:List RowB) (args:List PV) (xs:List (List YV)):Prop:=
  ∀ (Y:Yield) (V:Nat->Prop) (m:M) (vs:Array Value) (y:Value),Y.P=C.P->Y.xs=xs->YieldOk Y y->Inv m (G.map RowB.blk) []->(∀ i,G.length<=i->m.ρ 0 i=none)->args.length=vs.size->(∀ (j:Nat) p v,args[j]? = some p->vs[j]? = some v->RP m p v) ->
    (∀ k,V k->m.U k)->(∀ k,V k -> ¬ Mine m (G.map RowB.blk) k)->Y.J (some 0) V m.w m.U ->
    Calls C.P f (#[y]++vs) m.w fun e w'=>∃ (r:Value) (U' V':Nat->Prop) (st:Option Nat),e = .returned r/\w'.os=m.w.os/\w'.tape=m.w.tape/\w'.output=m.w.output/\m.w.heap.size<=w'.heap.size /\
     (∀ k,k < m.w.heap.size->(U' k↔m.U k))/\(∀ k,k < m.w.heap.size -> ¬ Mine m (G.map RowB.blk) k -> ¬ V k->w'.heap[k]? = m.w.heap[k]?) /\
     (∀ k,V k->V' k)/\(∀ k,V' k->V k\/m.w.heap.size<=k)/\(∀ k,V' k->U' k)/\(∀ k,U' k->k < w'.heap.size)/\Y.J st V' w' U'/\(st=some xs.length\/st=none)
def yvOne (p:PV) (K:YV->Prop):Prop:=
 match p with
 | .agg cs=>dvsK cs fun xs=>K (.agg xs)
 | p=>dvK p fun x=>K (.one x)
def yvsK (ps:List PV) (K:List YV->Prop):Prop:=
 List.rec (motive:=fun _=>(List YV->Prop)->Prop) (fun K=>K []) (fun p _ ih K=>yvOne p fun x=>ih fun xs=>K (x::xs)) ps K
theorem yvsK_cons (p:PV) (ps:List PV) (K:List YV->Prop):yvsK (p::ps) K=yvOne p fun x=>yvsK ps fun xs=>K (x::xs):=rfl
def genK (top:List Blk) (n:Nat) (K:Nat->Yield->Option Nat->Prop):Prop:=
 List.rec (motive:=fun _=>Nat->Prop) (fun _=>False) (fun b _ ih n=>match b with | .gen Y st=>K n Y st | _=>ih (n+1)) top n
theorem genK_cons (b:Blk) (top:List Blk) (n:Nat) (K:Nat->Yield->Option Nat->Prop):genK (b::top) n K=match b with | .gen Y st=>K n Y st | _=>genK top (n+1) K:=rfl
def yieldK (C:Cx) (top:List Blk) (Y0:Yield) (ps:List PV) (K:PV->List Blk->Prop):Prop:=
 yvsK ps fun args=>genK top 0 fun i Y st=>(match st with
  | some k=>Y0=Y/\Y0.P=C.P/\Y.xs[k]? = some args/\setK top i (.gen Y (some (k+1))) (K (.kb true))/\setK top i (.gen Y none) (K (.kb false))
  | none=>False)
def actY (C:Cx) (H:List (List Blk)) (op:Op) (tm:List PV) (top:List Blk) (K:PV->List Blk->Prop):Prop:=
 match op with
 | .call c=>(match c.callee with
    | .value (.tmp t)=>getK tm t fun p=>(match p with
       | .yld Y=>evsK tm c.args.toList fun ps=>yieldK C top Y ps K
       | _=>actK C H (.call c) tm top K)
    | _=>actK C H (.call c) tm top K)
 | op=>actK C H op tm top K
noncomputable def litD (gv:List Nat) (o:Oper):Option Nat:=match o.op with | .buildSlice t n _=>(match gv.any (Nat.beq (t+1000)) with | true=>none | false=>(match n with | 0=>none | _+1=>o.dst)) | _=>none
noncomputable def rmN (d:Option Nat) (ds:List Nat):List Nat:=
 match d with
 | none=>ds
 | some d=>List.rec (motive:=fun _=>List Nat) [] (fun x _ ih=>match Nat.beq x d with | true=>ih | false=>x::ih) ds
noncomputable def litsN (gv:List Nat) (o:Oper) (ds:List Nat):List Nat:=match litD gv o with | some d=>d::rmN o.dst ds | none=>rmN o.dst ds
noncomputable def noGenB (top:List Blk):Bool:=List.rec (motive:=fun _=>Bool) true (fun b _ ih=>match b with | .gen _ _=>false | _=>ih) top
noncomputable def memB (ds:List Nat) (t:Nat):Bool:=List.rec (motive:=fun _=>Bool) false (fun x _ ih=>match Nat.beq x t with | true=>true | false=>ih) ds
def markK (C:Cx) (s:Nat) (t:Nat) (ds:List Nat) (top:List Blk) (p:PV) (K:PV->List Blk->Prop):Prop:=
 ifK (memB ds t) (ifK (noGenB top) (lookK C.L s fun r=>(match r.ty with
  | .slice e=>lookK C.L e fun r'=>(match r'.ty with
     | .int .u8=>K p top
     | _=>False)
  | _=>False)))
def actL (C:Cx) (H:List (List Blk)) (op:Op) (ds:List Nat) (tm:List PV) (top:List Blk) (K:PV->List Blk->Prop):Prop:=
 match op with
 | .convert s d x=>(match x with
    | .tmp t=>getK tm t fun p=>(match p with
       | .d (.sl xs)=>(match Nat.beq s d with
          | true=>markK C s t ds top (.d (.sl xs)) K
          | false=>actY C H (.convert s d x) tm top K)
       | _=>actY C H (.convert s d x) tm top K)
    | _=>actY C H (.convert s d x) tm top K)
 | op=>actY C H op tm top K
def sbOne (i:Nat) (xs:List (List DV)) (one:PV->(PV->Prop)->Prop) (p:PV) (K:PV->Prop):Prop:=
 match p with
 | .row l j n=>(match l with
   | 0=>(match Nat.beq j i with | true=>K (.d (.sl (xs.take n))) | false=>K (.row 0 j n))
   | l+1=>K (.row (l+1) j n))
 | .agg cs=>adoptsF one cs fun cs'=>K (.agg cs')
 | .tuple cs=>adoptsF one cs fun cs'=>K (.tuple cs')
 | p=>K p
def sbF (i:Nat) (xs:List (List DV)) (n:Nat):PV->(PV->Prop)->Prop:=
 Nat.rec (motive:=fun _=>PV->(PV->Prop)->Prop) (fun p K=>K p) (fun _ ih=>sbOne i xs ih) n
def sbB (i:Nat) (xs:List (List DV)) (top:List Blk) (K:List Blk->Prop):Prop:=
 List.rec (motive:=fun _=>(List Blk->Prop)->Prop) (fun K=>K []) (fun b _ ih K=>match b with
  | .box cs=>adoptsF (sbF i xs 3) cs fun cs'=>ih fun bs=>K (.box cs'::bs)
  | b=>ih fun bs=>K (b::bs)) top K
theorem sbB_cons (i:Nat) (xs:List (List DV)) (b:Blk) (top:List Blk) (K:List Blk->Prop):sbB i xs (b::top) K=match b with
 | .box cs=>adoptsF (sbF i xs 3) cs fun cs'=>sbB i xs top fun bs=>K (.box cs'::bs)
 | b=>sbB i xs top fun bs=>K (b::bs):=rfl
def frName (i:Nat) (tm:List PV) (top:List Blk) (K:List PV->List Blk->Prop):Prop:=
 getK top i fun b=>match b with
  | .row _ _ xs=>setK top i .dead fun top1=>adoptsF (sbF i xs 3) tm fun tm'=>sbB i xs top1 fun top'=>K tm' top'
  | _=>K tm top
noncomputable def rowsF (n:Nat):PV->List Nat:=
 Nat.rec (motive:=fun _=>PV->List Nat) (fun _=>[]) (fun _ ih p=>match p with
  | .row l i _=>(match l with | 0=>[i] | _+1=>[])
  | .agg cs=>List.rec (motive:=fun _=>List Nat) [] (fun c _ acc=>List.rec (motive:=fun _=>List Nat) acc (fun x _ ih=>x::ih) (ih c)) cs
  | _=>[]) n
def frNames (is:List Nat) (tm:List PV) (top:List Blk) (K:List PV->List Blk->Prop):Prop:=
 List.rec (motive:=fun _=>List PV->List Blk->Prop) (fun tm top=>K tm top) (fun i _ ih tm top=>frName i tm top ih) is tm top
theorem frNames_cons (i:Nat) (is:List Nat) (tm:List PV) (top:List Blk) (K:List PV->List Blk->Prop):frNames (i::is) tm top K=frName i tm top fun tm' top'=>frNames is tm' top' K:=rfl
def frOps (xs:List Operand) (tm:List PV) (top:List Blk) (K:List PV->List Blk->Prop):Prop:=
 List.rec (motive:=fun _=>List PV->List Blk->Prop) (fun tm top=>K tm top) (fun x _ ih tm top=>match x with | .tmp t=>getK tm t fun p=>frNames (rowsF 4 p) tm top ih | _=>ih tm top) xs tm top
theorem frOps_cons (x:Operand) (xs:List Operand) (tm:List PV) (top:List Blk) (K:List PV->List Blk->Prop):frOps (x::xs) tm top K=match x with | .tmp t=>getK tm t fun p=>frNames (rowsF 4 p) tm top fun tm' top'=>frOps xs tm' top' K | _=>frOps xs tm top K:=rfl
def sbpOne (i:Nat) (ds:List DV) (one:PV->(PV->Prop)->Prop) (p:PV) (K:PV->Prop):Prop:=
 match p with
 | .ptr l j o=>(match l with
   | 0=>(match Nat.beq j i with | true=>K (.iptr (ds.drop o)) | false=>K (.ptr 0 j o))
   | l+1=>K (.ptr (l+1) j o))
 | .agg cs=>adoptsF one cs fun cs'=>K (.agg cs')
 | .tuple cs=>adoptsF one cs fun cs'=>K (.tuple cs')
 | p=>K p
def sbpF (i:Nat) (ds:List DV) (n:Nat):PV->(PV->Prop)->Prop:=
 Nat.rec (motive:=fun _=>PV->(PV->Prop)->Prop) (fun p K=>K p) (fun _ ih=>sbpOne i ds ih) n
def sbpB (i:Nat) (ds:List DV) (top:List Blk) (K:List Blk->Prop):Prop:=
 List.rec (motive:=fun _=>(List Blk->Prop)->Prop) (fun K=>K []) (fun b _ ih K=>match b with
  | .box cs=>adoptsF (sbpF i ds 3) cs fun cs'=>ih fun bs=>K (.box cs'::bs)
  | b=>ih fun bs=>K (b::bs)) top K
theorem sbpB_cons (i:Nat) (ds:List DV) (b:Blk) (top:List Blk) (K:List Blk->Prop):sbpB i ds (b::top) K=match b with
 | .box cs=>adoptsF (sbpF i ds 3) cs fun cs'=>sbpB i ds top fun bs=>K (.box cs'::bs)
 | b=>sbpB i ds top fun bs=>K (b::bs):=rfl
def frBox (i:Nat) (tm:List PV) (top:List Blk) (K:List PV->List Blk->Prop):Prop:=
 getK top i fun b=>match b with
  | .box cs=>dvsK cs fun ds=>setK top i .dead fun top1=>adoptsF (sbpF i ds 3) tm fun tm'=>sbpB i ds top1 fun top'=>K tm' top'
  | _=>False
noncomputable def sndL (xs:List (Nat × Operand)):List Operand:=List.rec (motive:=fun _=>List Operand) [] (fun x _ ih=>x.2::ih) xs
def frzK (C:Cx) (op:Op) (tm:List PV) (top:List Blk) (K:List PV->List Blk->Prop):Prop:=
 match C.fcl with
 | false=>K tm top
 | true=>(match op with
   | .call c=>(match c.callee with
     | .value (.func f)=>(match C.give.any (Nat.beq f) with | true=>K tm top | false=>ifK (noGenB top) (frOps c.args.toList tm top K))
     | _=>K tm top)
   | .buildSlice _ n parts=>(match n with | 0=>K tm top | _+1=>ifK (noGenB top) (frOps (sndL parts.toList) tm top K))
   | .store t (.tmp ta) x=>(match C.mv.any (Nat.beq t) with
     | true=>K tm top
     | false=>getK tm ta fun q=>(match q with | .rptr _ _ _ _ _=>ifK (noGenB top) (frOps [x] tm top K) | _=>K tm top))
   | _=>K tm top)
def frDeep (i:Nat) (tm:List PV) (top:List Blk) (K:List PV->List Blk->Prop):Prop:=
 getK top i fun b=>match b with
  | .deep _ _ xs=>setK top i .dead fun top1=>adoptsF (sbF i (plRows xs) 3) tm fun tm'=>sbB i (plRows xs) top1 fun top'=>K tm' top'
  | .row _ _ xs=>setK top i .dead fun top1=>adoptsF (sbF i xs 3) tm fun tm'=>sbB i xs top1 fun top'=>K tm' top'
  | _=>K tm top
def frDeeps (is:List Nat) (tm:List PV) (top:List Blk) (K:List PV->List Blk->Prop):Prop:=
 List.rec (motive:=fun _=>List PV->List Blk->Prop) (fun tm top=>K tm top) (fun i _ ih tm top=>frDeep i tm top ih) is tm top
theorem frDeeps_cons (i:Nat) (is:List Nat) (tm:List PV) (top:List Blk) (K:List PV->List Blk->Prop):frDeeps (i::is) tm top K=frDeep i tm top fun tm' top'=>frDeeps is tm' top' K:=rfl
def frzS (C:Cx) (op:Op) (tm:List PV) (top:List Blk) (K:List PV->List Blk->Prop):Prop:=
 match op with
 | .slice _ (.tmp ta) _ _ _=>(match C.fcl with
   | false=>K tm top
   | true=>getK tm ta fun q=>(match q with | .ptr l i _=>(match l with | 0=>ifK (noGenB top) (frBox i tm top K) | _+1=>K tm top) | _=>K tm top))
 | .load t (.tmp ta)=>(match C.fld.any (Nat.beq t) with
   | false=>(match C.mv.any (Nat.beq t) with
     | false=>K tm top
     | true=>getK tm ta fun q=>(match q with
       | .rptr l i _ _ _=>(match l with
         | 0=>getK top i fun b=>(match b with | .sub _ _ _=>takeOneK C top i fun top'=>K tm top' | _=>K tm top)
         | _+1=>K tm top)
       | _=>K tm top))
   | true=>(match C.fcl with
     | false=>K tm top
     | true=>lookK C.L t fun r=>(match r.ty.isAgg with
       | false=>K tm top
       | true=>getK tm ta fun q=>(match q with
         | .ptr l i _=>(match l with
           | 0=>getK top i fun b=>(match b with | .box cs=>ifK (noGenB top) (frDeeps (rowsF 2 (.agg cs)) tm top K) | _=>K tm top)
           | _+1=>K tm top)
         | _=>K tm top))))
 | op=>frzK C op tm top K
def opsY (C:Cx) (H:List (List Blk)) (ops l:List Oper) (ds:List Nat) (tm:List PV) (top:List Blk) (K:List PV->List Blk->Prop):Prop:=
 List.rec (motive:=fun _=>List Nat->List PV->List Blk->Prop) (fun _ tm top=>K tm top) (fun o _ ih ds tm top=>wantK ops o tm fun w tm1=>(match w with
  | true=>frzS C o.op tm1 top fun tm2 top2=>actL C H o.op ds tm2 top2 fun p top'=>putDst o tm2 p fun tm'=>ih (litsN C.give o ds) tm' top'
  | false=>putDst o tm1 (.tuple []) fun tm'=>ih (rmN o.dst ds) tm' top)) l ds tm top
noncomputable def appL (a b:List Nat):List Nat:=List.rec (motive:=fun _=>List Nat) b (fun x _ ih=>x::ih) a
noncomputable def opDsts (l:List Oper):List Nat:=List.rec (motive:=fun _=>List Nat) [] (fun o _ ih=>match o.dst with | some d=>d::ih | none=>ih) l
noncomputable def dstsC (c:Code):List Nat:=
 Code.rec (motive:=fun _=>List Nat) [] (fun _ ops _=>opDsts ops.toList) (fun _ _ a b=>appL a b) (fun _ _ _ a b=>appL a b) (fun _ _ a=>a) (fun _ a=>a) (fun _ ps _ _ a b=>appL ps.toList (appL a b)) (fun _=>[]) (fun _ a=>a) (fun _=>[]) (fun _=>[]) [] (fun _=>[]) c
def maskK (W:List Nat) (tm:List PV) (K:List PV->Prop):Prop:=
 List.rec (motive:=fun _=>List PV->Prop) (fun tm=>K tm) (fun j _ ih tm=>setK tm j .any ih) W tm
theorem maskK_cons (j:Nat) (W:List Nat) (tm:List PV) (K:List PV->Prop):maskK (j::W) tm K=setK tm j .any fun tm'=>maskK W tm' K:=rfl
noncomputable def yvPV (x:YV):PV:=match x with | .one x=>.d x | .agg xs=>.agg (dpv xs)
def putPs (ps:List Nat) (xs:List YV) (tm:List PV) (K:List PV->Prop):Prop:=
 List.rec (motive:=fun _=>List YV->List PV->Prop) (fun xs tm=>List.rec (motive:=fun _=>Prop) (K tm) (fun _ _ _=>False) xs)
  (fun p _ ih xs tm=>List.rec (motive:=fun _=>Prop) False (fun x xs _=>setK tm p (yvPV x) (ih xs)) xs) ps xs tm
theorem putPs_cons (p:Nat) (ps:List Nat) (x:YV) (xs:List YV) (tm:List PV) (K:List PV->Prop):putPs (p::ps) (x::xs) tm K=setK tm p (yvPV x) fun tm'=>putPs ps xs tm' K:=rfl
def capOneK (top:List Blk) (p:PV) (bs:List Nat) (K:PV->Option (Nat × RowB)->Prop):Prop:=
 match p with
 | .ptr 0 i o=>getK top i fun b=>(match b with
    | .box cs=>(match bs.any (Nat.beq i) with
       | true=>False
       | false=>dvsK cs fun ds=>lenK bs fun g=>K (.ptr 0 g o) (some (i,⟨0,0,[ds]⟩)))
    | _=>False)
 | p=>dvK p fun x=>K (.d x) none
def capsK (top:List Blk) (ps:List PV) (bs:List Nat) (K:List PV->List Nat->List RowB->Prop):Prop:=
 List.rec (motive:=fun _=>List Nat->(List PV->List Nat->List RowB->Prop)->Prop) (fun _ K=>K [] [] [])
  (fun p _ ih bs K=>capOneK top p bs fun p' o=>match o with
    | some (i,r)=>snocK bs i fun bs1=>ih bs1 fun ps' bs' G=>K (p'::ps') (i::bs') (r::G)
    | none=>ih bs fun ps' bs' G=>K (p'::ps') bs' G) ps bs K
theorem capsK_cons (top:List Blk) (p:PV) (ps:List PV) (bs:List Nat) (K:List PV->List Nat->List RowB->Prop):capsK top (p::ps) bs K=capOneK top p bs fun p' o=>match o with
 | some (i,r)=>snocK bs i fun bs1=>capsK top ps bs1 fun ps' bs' G=>K (p'::ps') (i::bs') (r::G)
 | none=>capsK top ps bs fun ps' bs' G=>K (p'::ps') bs' G:=rfl
@[irreducible] def oP (C:Cx) (f:Nat) (G:List RowB) (args:List PV) (ps W:List Nat) (asg body:(Exit->List PV->List Blk->Prop)->List PV->List Blk->Prop) (K:Exit->List PV->List Blk->Prop) (tm:List PV) (top:List Blk):Prop:=
  ∃ (xs:List (List YV)) (tmS:List PV) (S:Nat->List Blk) (I:Nat->Prop),kK C f G args xs/\(I 0 /\ ∃ s,Ref s tm top tmS (S 0)) /\
    (∀ k x,xs[k]? = some x->I k->putPs ps x tmS fun tmr=>asg (fun e tm1 top1=>match e with
      | .normal=>body (fun e tm2 top2=>match e with
         | .normal=>maskK W tm2 fun tm3=>I (k+1) /\ ∃ s,Ref s tm3 top2 tmS (S (k+1))
         | e=>maskK W tm2 fun tm3=>K e tm3 top2) tm1 top1
      | _=>False) tmr (S k)) /\
    (I xs.length->K .normal tmS (S xs.length))
def rangeK (C:Cx) (g:Operand) (ps W:List Nat) (asg body:(Exit->List PV->List Blk->Prop)->List PV->List Blk->Prop) (K:Exit->List PV->List Blk->Prop) (tm:List PV) (top:List Blk):Prop:=
 evK tm g fun p=>(match p with
  | .func (.func f) [] cs=>ifK (C.plain f) (capsK top cs [] fun args bs G=>hideK top bs fun top1=>oP C f G args ps W asg body K tm top1)
  | _=>False)
inductive QOp where
 | pure
 | make
 | quiet (hist:List Nat)
 | act (pend:List Nat)
inductive Tr where
 | fin
 | none
 | alt (i:Nat) (sub rest:Tr)
 | cut (sub:Tr)
 | quiet (plan:List QOp)
 | take (j:Nat) (sub:Tr)
def findK {α:Type} (l:List (Nat × α)) (j:Nat) (K:α->Prop):Prop:=List.rec (motive:=fun _=>Prop) False (fun p _ ih=>match Nat.beq p.1 j with | true=>K p.2 | false=>ih) l
def eachK (is:List Nat) (f:Nat->Prop) (K:Prop):Prop:=List.rec (motive:=fun _=>Prop) K (fun i _ ih=>f i/\ih) is
def againK (C:Cx) (H:List (List Blk)) (op:Op) (tm:List PV) (p:PV) (ab:Option (Nat × Nat)) (top:List Blk):Prop:=
 match ab with
 | none=>actK C H op tm top fun p' h'=>p'=p/\h'=top
 | some (a,b)=>takeK top a fun h=>takeK top b fun h1=>actK C H op tm h fun p' h'=>p'=p/\h'=h1
def quietK (C:Cx) (H:List (List Blk)) (ops:List Oper) (plan:List QOp) (K:List PV->List Blk->Prop):Nat->List PV->List Blk->List (Nat × List Blk)->List (Nat × Oper × List PV × PV × Option (Nat × Nat))->Prop:=
 List.rec (motive:=fun _=>Nat->List PV->List Blk->List (Nat × List Blk)->List (Nat × Oper × List PV × PV × Option (Nat × Nat))->Prop) (fun _ tm top _ _=>K tm top)
  (fun q _ ih i tm top tops pend=>getK ops i fun o=>match q with
    | .pure=>actK C H o.op tm top fun p _=>putDst o tm p fun tm'=>ih (i+1) tm' top tops pend
    | .make=>actK C H o.op tm top fun p top'=>lenK top fun a=>lenK top' fun b=>putDst o tm p fun tm'=>ih (i+1) tm' top' tops ((i,o,tm,p,some (a,b))::pend)
    | .quiet hist=>actK C H o.op tm top fun p top'=>top'=top/\eachK hist (fun j=>findK tops j fun h=>actK C H o.op tm h fun p' h'=>p'=p/\h'=h) (putDst o tm p fun tm'=>ih (i+1) tm' top tops ((i,o,tm,p,none)::pend))
    | .act pl=>actK C H o.op tm top fun p top'=>eachK pl (fun k=>findK pend k fun x=>againK C H x.1.op x.2.1 x.2.2.1 x.2.2.2 top') (putDst o tm p fun tm'=>ih (i+1) tm' top' ((i,top)::tops) pend)) plan
theorem quietK_cons (C:Cx) (H:List (List Blk)) (ops:List Oper) (q:QOp) (plan:List QOp) (K:List PV->List Blk->Prop) (i:Nat) (tm:List PV) (top:List Blk) (tops:List (Nat × List Blk)) (pend:List (Nat × Oper × List PV × PV × Option (Nat × Nat))) :
 quietK C H ops (q::plan) K i tm top tops pend=getK ops i fun o=>match q with
  | .pure=>actK C H o.op tm top fun p _=>putDst o tm p fun tm'=>quietK C H ops plan K (i+1) tm' top tops pend
  | .make=>actK C H o.op tm top fun p top'=>lenK top fun a=>lenK top' fun b=>putDst o tm p fun tm'=>quietK C H ops plan K (i+1) tm' top' tops ((i,o,tm,p,some (a,b))::pend)
  | .quiet hist=>actK C H o.op tm top fun p top'=>top'=top/\eachK hist (fun j=>findK tops j fun h=>actK C H o.op tm h fun p' h'=>p'=p/\h'=h) (putDst o tm p fun tm'=>quietK C H ops plan K (i+1) tm' top tops ((i,o,tm,p,none)::pend))
  | .act pl=>actK C H o.op tm top fun p top'=>eachK pl (fun k=>findK pend k fun x=>againK C H x.1.op x.2.1 x.2.2.1 x.2.2.2 top') (putDst o tm p fun tm'=>quietK C H ops plan K (i+1) tm' top' ((i,top)::tops) pend):=rfl
def opAtK (C:Cx) (H:List (List Blk)) (ops:List Oper) (i:Nat) (ds:List Nat) (K:List Nat->List PV->List Blk->Prop) (tm:List PV) (top:List Blk):Prop:=
 getK ops i fun o=>wantK ops o tm fun w tm1=>(match w with
  | true=>frzK C o.op tm1 top fun tm2 top2=>actL C H o.op ds tm2 top2 fun p top'=>putDst o tm2 p fun tm'=>K (litsN C.give o ds) tm' top'
  | false=>putDst o tm1 (.tuple []) fun tm'=>K (rmN o.dst ds) tm' top)
@[irreducible] def pT (f:(List PV->List Blk->Prop)->List PV->List Blk->Prop) (K:List PV->List Blk->Prop) (tm:List PV) (top:List Blk):Prop:=
  ∃ tmS S,f (fun tm' top'=>∃ s,Ref s tm' top' tmS S) tm top/\K tmS S
theorem cutV_of {f:(List PV->List Blk->Prop)->List PV->List Blk->Prop} {K:List PV->List Blk->Prop} {tm:List PV} {top:List Blk} (tmS:List PV) (S:List Blk) (h1:f (fun tm' top'=>∃ s,Ref s tm' top' tmS S) tm top) (h2:K tmS S):pT f K tm top:=by
 unfold pT;exact ⟨tmS,S,h1,h2⟩
theorem cutV_to {f:(List PV->List Blk->Prop)->List PV->List Blk->Prop} {K:List PV->List Blk->Prop} {tm:List PV} {top:List Blk} (h:pT f K tm top):∃ tmS S,f (fun tm' top'=>∃ s,Ref s tm' top' tmS S) tm top/\K tmS S:=by
 unfold pT at h;exact h
def trK (C:Cx) (H:List (List Blk)) (ops:List Oper) (t:Tr):(List PV->List Blk->Prop)->List Nat->List PV->List Blk->Prop:=
 Tr.rec (motive:=fun _=>(List PV->List Blk->Prop)->List Nat->List PV->List Blk->Prop) (fun K _ tm top=>K tm top) (fun _ _ _ _=>True)
  (fun i _ rest ihs ihr K ds tm top=>match rest with
    | .none=>opAtK C H ops i ds (ihs K) tm top
    | _=>opAtK C H ops i ds (ihs K) tm top/\ihr K ds tm top)
  (fun _ ih K ds tm top=>pT (fun K' tm top=>ih K' ds tm top) K tm top) (fun plan K _ tm top=>quietK C H ops plan K 0 tm top [] []) (fun j _ ih K ds tm top=>takeOneK C top j fun top'=>ih K ds tm top') t
def moK (mo:List (Nat × Tr)) (id:Nat) (f:Tr->Prop) (d:Prop):Prop:=
 List.rec (motive:=fun _=>Prop) d (fun p _ ih=>match Nat.beq p.1 id with | true=>f p.2 | false=>ih) mo
def wpM (C:Cx) (H:List (List Blk)) (mo:List (Nat × Tr)) (c:Code) (K:Exit->List PV->List Blk->Prop) (tm:List PV) (top:List Blk):Prop:=
 Code.rec (motive:=fun _=>(Exit->List PV->List Blk->Prop)->List PV->List Blk->Prop)
  (fun K tm top=>K .normal tm top)
  (fun id ops draw K tm top=>match draw with
    | false=>opsY C H ops.toList ops.toList [] tm top fun tm' top'=>K .normal tm' top'
    | true=>moK mo id (fun t=>trK C H ops.toList t (fun tm' top'=>K .normal tm' top') [] tm top) (opsK C H (empsF C.frz ops.toList) ops.toList ops.toList tm top fun tm' top'=>K .normal tm' top'))
  (fun _ _ iha ihb K tm top=>iha (fun e tm' top'=>match e with | .normal=>ihb K tm' top' | e=>K e tm' top') tm top)
  (fun c _ _ iha ihb K tm top=>evK tm c fun p=>(match p with
    | .kb true=>iha K tm top
    | .kb false=>ihb K tm top
    | .ub=>iha K tm top/\ihb K tm top
    | .d (.bool x)=>(x=true->iha K tm top)/\(x=false->ihb K tm top)
    | _=>False))
  (fun id _ ih K tm top=>ih (fun e tm' top'=>match e with
    | .exit id'=>(match Nat.beq id' id with | true=>K .normal tm' top' | false=>K (.exit id') tm' top')
    | e=>K e tm' top') tm top)
  (fun _ ih K tm top=>oO ih K tm top)
  (fun g ps a b iha ihb K tm top=>rangeK C g ps.toList (appL ps.toList (appL (dstsC a) (dstsC b))) iha ihb K tm top)
  (fun id K tm top=>K (.exit id) tm top)
  (fun _ ih K tm top=>ih (fun e tm' top'=>match e with | .goto _=>False | e=>K e tm' top') tm top)
  (fun _ K tm top=>K .normal tm top)
  (fun l K tm top=>K (.goto l) tm top)
  (fun K tm top=>K .ret tm top)
  (fun _ _ _ _=>False) c K tm top
def wpC (C:Cx) (H:List (List Blk)) (c:Code) (K:Exit->List PV->List Blk->Prop) (tm:List PV) (top:List Blk):Prop:=wpM C H [] c K tm top
def resK (C:Cx) (H:List (List Blk)) (tm:List PV) (top:List Blk) (rvs:List ResultVar) (K:List PV->Prop):Prop:=
 List.rec (motive:=fun _=>(List PV->Prop)->Prop) (fun K=>K []) (fun rv _ ih K=>match rv with
  | .tmp t=>getK tm t fun p=>ih fun ps=>K (p::ps)
  | .cell a t=>getK tm a fun p=>loadK C H top t p fun q=>ih fun ps=>K (q::ps)) rvs K
def oneK (ps:List PV) (K:PV->Prop):Prop:=
 match ps with
 | [p]=>K p
 | ps=>K (.tuple ps)
def refRow (b:Option Blk) (r:RowB):Prop:=
 match b with
 | some (.row e' sz' xs')=>(match Nat.beq sz' 0 with | true=>False | false=>(match Nat.ble 64 r.sz with | true=>e'=r.e/\sz'=r.sz - 64/\xs'=r.xs | false=>e'=r.e/\sz'=r.sz/\xs'=r.xs))
 | some (.deep e' sz' xs')=>(match Nat.beq sz' 0 with | true=>False | false=>(match Nat.ble 64 r.sz with | true=>e'=r.e/\sz'=r.sz - 64/\xs'=r.xs | false=>False))
 | none=>(match Nat.ble 64 r.sz with | true=>r.xs = []/\Nat.blt 0 (r.sz - 64)=true | false=>r.xs = []/\Nat.blt 0 r.sz=true)
 | some (.box cs')=>(match Nat.beq r.sz 0 with | true=>dvsK cs' fun ds=>ds=headD r.xs | false=>False)
 | _=>False
def refN (top:List Blk) (js:List Nat) (N:List RowB):Prop:=
 List.rec (motive:=fun _=>List RowB->Prop) (fun N=>List.rec (motive:=fun _=>Prop) True (fun _ _ _=>False) N)
  (fun j _ ih N=>List.rec (motive:=fun _=>Prop) False (fun r N _=>refRow top[j]? r/\ih N) N) js N
def retK (C:Cx) (H:List (List Blk)) (rvs:List ResultVar) (r:PV) (N:List RowB) (e:Exit) (tm:List PV) (top:List Blk):Prop:=
 let fin:Prop:=resK C H tm top rvs fun ps=>oneK ps fun p=>takesK C [p] top fun top1=>∃ s,nodupB s=true/\refP s s.length top1.length p r/\refN top1 s N
 match e with
 | .normal=>fin
 | .ret=>fin
 | _=>False
def padK (args:List PV) (n:Nat) (K:List PV->Prop):Prop:=
 Nat.rec (motive:=fun _=>List PV->(List PV->Prop)->Prop) (fun args K=>List.rec (motive:=fun _=>Prop) (K []) (fun _ _ _=>False) args)
  (fun _ ih args K=>List.rec (motive:=fun _=>Prop) (ih [] fun ps=>K (.any::ps)) (fun p ps _=>ih ps fun qs=>K (p::qs)) args) n args K
def ev? (tm:List PV):Operand->Option PV
 | .tmp t=>tm[t]?
 | .const v=>some (match v with | .bool b=>.kb b | .int k n=>.d (.int k n) | .string s=>.d (.str s) | .slice none 0 0=>.nils | _=>.any)
 | .func f=>some (.func (.func f) [] [])
 | .global _=>some .any
theorem aT {tm:List PV} {x:Operand} {K:PV->Prop} (h:evK tm x K):∃ p,ev? tm x=some p/\K p:=by
 cases x with
 | tmp t=>exact getK_spec.1 h
 | const v=>simp only [evK] at h;simp only [ev?];exact ⟨_,rfl,by first | (split at h <;> split <;> first | exact h | simp_all) | (split at h <;> first | exact h | simp_all)⟩
 | global g=>exact ⟨_,rfl,h⟩
 | func f=>exact ⟨_,rfl,h⟩
def EvR (m:M) (a:Act) (tm:List PV) (xs:List Operand):Prop:=∀ t p,Operand.tmp t ∈ xs->tm[t]? = some p->RP m p (a.eval (.tmp t))
theorem aO {m:M} {a:Act} {tm:List PV} {xs:List Operand} (h:EvR m a tm xs) {x:Operand} (hx:x ∈ xs) {p:PV} (hp:ev? tm x=some p):RP m p (a.eval x):=by
 cases x with
 | tmp t=>exact h t p hx hp
 | const v=>
   simp only [ev?,Option.some.injEq] at hp
   subst hp
   split <;> first | exact .kb _ | exact .d _ _ (.int _ _) | exact .d _ _ (.str _) | exact .nils | exact .any _
 | global g=>simp only [ev?,Option.some.injEq] at hp;subst hp;exact .any _
 | func f=>simp only [ev?,Option.some.injEq] at hp;subst hp;exact .func _ _ _ _ _ rfl rfl (fun j p v h=>by simp at h) (fun j p v h=>by simp at h)
def Blk.isGen:Blk->Bool
 | .gen _ _=>true
 | _=>false
def fV (l:List Blk):Bool:=l.all fun b=>!b.isGen
def Ext (top top':List Blk):Prop:=∃ l,top'=top++l/\fV l=true
theorem Ext.refl (top:List Blk):Ext top top:=⟨[],by simp,rfl⟩
theorem Ext.app (top l:List Blk) (h:fV l=true:=by rfl):Ext top (top++l):=⟨l,rfl,h⟩
theorem Ext.isPre {top top':List Blk} (h:Ext top top'):top <+: top':=by obtain ⟨l,rfl,_⟩:=h;exact List.prefix_append _ _
structure GenLe (top top':List Blk):Prop where
 gen:∀ (i:Nat) Y st,top'[i]? = some (.gen Y st)->top[i]? = some (.gen Y st)
 len:top.length<=top'.length
theorem GenLe.refl (top:List Blk):GenLe top top:=⟨fun _ _ _ h=>h,aBo _⟩
theorem GenLe.trans {a b c:List Blk} (h:GenLe a b) (k:GenLe b c):GenLe a c:=
 ⟨fun i Y st hi=>h.gen i Y st (k.gen i Y st hi),aBp h.len k.len⟩
theorem vQ {l:List Blk} (h:fV l=true) {i:Nat} {Y:Yield} {st:Option Nat} (hi:l[i]? = some (.gen Y st)):False:=by
 unfold fV at h
 rw [aBd] at h
 have:=h _ (aAg hi)
 cases this
theorem GenLe.app {top:List Blk} (l:List Blk) (h:fV l=true):GenLe top (top++l):=⟨fun i Y st hi=>by
 rcases aBl i top.length with h1 | h1
 . rwa [aAk h1] at hi
 . rw [aAj h1] at hi
   exact (vQ h hi).elim,by simp⟩
theorem GenLe.set {top:List Blk} {i:Nat} {b0:Blk} (h0:top[i]? = some b0) (hl0:b0.isGen=b0.isGen) {b:Blk} (h:b.isGen=false):GenLe top (top.set i b):=⟨fun j Y st hj=>by
 by_cases hij:i=j
 . subst hij
   rw [List.getElem?_set] at hj
   split at hj
   . split at hj
     . cases hj;cases h
     . cases hj
   . exact hj
 . rwa [aAs hij] at hj,by simp⟩
theorem Ext.genLe {top top':List Blk} (h:Ext top top'):GenLe top top':=by obtain ⟨l,rfl,h⟩:=h;exact GenLe.app l h
def bQ (C:Cx) (H:List (List Blk)) (o:Oper) (tm:List PV) (top:List Blk) (pv:PV) (top':List Blk):Prop:=
 ∀ (m:M) (a:Act),Inv m top H->EvR m a tm o.op.operands.toList->(∀ j,top.length<=j->j < top'.length->m.ρ 0 j=none) ->
   ∀ (next:Act->World->Prop) (Q:Exit->Act->World->Prop),
     (∀ v m',Grow m m'->(∀ l j,¬ (l=0/\top.length<=j/\j < top'.length)->m'.ρ l j=m.ρ l j) ->
       (∀ j b u k,top.length<=j->top'[j]? = some b->m'.ρ 0 j=some u->b.has m'.w u k->m.w.heap.size<=k)->Inv m' top' H->RP m' pv v->next (a.put o.dst v) m'.w) ->
     o.wp C.P a m.w next Q
theorem bE {C:Cx} {H:List (List Blk)} {o:Oper} {tm:List PV} {top:List Blk} {pv:PV}
 (h:∀ (m:M) (a:Act),Inv m top H->EvR m a tm o.op.operands.toList -> ∃ v,(execOp a.eval o).run C.P m.w = .ok (.value v) m.w/\RP m pv v):bQ C H o tm top pv top:=by
 intro m a hi he hf next Q hn
 obtain ⟨v,hr,hp⟩:=h m a hi he
 unfold Oper.wp
 rw [hr]
 exact hn v m (Grow.refl m) (fun _ _ _=>rfl) (fun j b u k h1 h2=>by have:=(aAe.1 h2).1;omega) hi hp
theorem cF (w:World) (o:Obj) (k:Nat) (h:k < w.heap.size):(w.alloc o).heap[k]? = w.heap[k]?:=by
 show (w.heap.push o)[k]? = _
 rw [Array.getElem?_push,if_neg (by omega)]
def M.new (m:M) (o:Obj) (i:Nat) (v:Value):M:=
 ⟨m.w.alloc o,fun l j=>if l=0/\j=i then some v else m.ρ l j,fun k=>m.U k\/k=m.w.heap.size⟩
theorem gD (m:M) (o:Obj) (i:Nat) (v:Value) (hf:m.ρ 0 i=none):Grow m (m.new o i v) where
 os:=rfl
 tape:=rfl
 output:=rfl
 size:=by simp [M.new]
 heap:=fun k hk=>cF _ _ _ hk
 ρ:=fun l j u hu=>by
   simp only [M.new]
   rw [if_neg]
   . exact hu
   . rintro ⟨rfl,rfl⟩;rw [hf] at hu;cases hu
 U:=fun k hk=>by simp only [M.new];constructor
                 . rintro (h | h)
                   . exact h
                   . omega
                 . exact .inl
theorem cQ {top:List Blk} {b:Blk} {H:List (List Blk)} {l i:Nat} (h:¬ (l=0/\i=top.length)):getB (top ++ [b]) H l i=getB top H l i:=by
 cases l with
 | zero=>
   simp only [getB]
   rcases aBl i top.length with hi | hi
   . rw [aAk hi]
   . rw [aAj hi,List.getElem?_eq_none hi]
     have:i≠top.length:=fun e=>h ⟨rfl,e⟩
     rw [List.getElem?_eq_none (by simp;omega)]
 | succ l=>rfl
theorem dP {top:List Blk} {b:Blk} {H:List (List Blk)}:getB (top ++ [b]) H 0 top.length=some b:=by simp [getB]
theorem mY {m:M} {top:List Blk} {H:List (List Blk)} (hi:Inv m top H) {o:Obj} {v:Value} (hf:m.ρ 0 top.length=none) (hv:blkOf v=some m.w.heap.size) {b:Blk} (hsh:b.vd=false)
 (hb:BlkOk (m.new o top.length v) 0 top.length b):Inv (m.new o top.length v) (top ++ [b]) H:=by
 have hg:=gD m o top.length v hf
 refine ⟨fun l i b' hb'=>?_,fun l i b1 l' i' b2 v1 v2 k h1 hl1 h2 hl2 hv1 hv2 hk1 hk2=>?_,fun l i b1 v1 k h1 hl1 hv1 hk=>?_,fun k hk=>?_,?_⟩
 . by_cases h:l=0/\i=top.length
   . obtain ⟨rfl,rfl⟩:=h
     rw [dP] at hb'
     cases hb';exact hb
   . rw [cQ h] at hb'
     refine (hi.blk l i b' hb').keep hg.keep (by simp only [M.new];rw [if_neg h]) (fun u k hlive hu hk=>hg.heap k ?_)
     exact hi.lt k (hi.own l i b' u k hb' hlive hu hk)
 . by_cases h:l=0/\i=top.length <;> by_cases h':l'=0/\i'=top.length
   . exact ⟨h.1.trans h'.1.symm,h.2.trans h'.2.symm⟩
   . exfalso
     simp only [M.new] at hv1 hv2
     rw [if_pos h] at hv1;rw [if_neg h'] at hv2
     cases hv1
     obtain ⟨rfl,rfl⟩:=h
     rw [dP] at h1;cases h1
     rw [Blk.has_shal hsh,hv] at hk1;cases hk1
     rw [cQ h'] at h2
     have:=hi.lt _ (hi.own l' i' b2 v2 _ h2 hl2 hv2 (hi.grow hg h2 hl2 hv2 hk2))
     omega
   . exfalso
     simp only [M.new] at hv1 hv2
     rw [if_neg h] at hv1;rw [if_pos h'] at hv2
     cases hv2
     obtain ⟨rfl,rfl⟩:=h'
     rw [dP] at h2;cases h2
     rw [Blk.has_shal hsh,hv] at hk2;cases hk2
     rw [cQ h] at h1
     have:=hi.lt _ (hi.own l i b1 v1 _ h1 hl1 hv1 (hi.grow hg h1 hl1 hv1 hk1))
     omega
   . simp only [M.new] at hv1 hv2
     rw [if_neg h] at hv1;rw [if_neg h'] at hv2
     rw [cQ h] at h1;rw [cQ h'] at h2
     exact hi.inj l i b1 l' i' b2 v1 v2 k h1 hl1 h2 hl2 hv1 hv2 (hi.grow hg h1 hl1 hv1 hk1) (hi.grow hg h2 hl2 hv2 hk2)
 . by_cases h:l=0/\i=top.length
   . simp only [M.new] at hv1 ⊢
     rw [if_pos h] at hv1;cases hv1
     obtain ⟨rfl,rfl⟩:=h
     rw [dP] at h1;cases h1
     rw [Blk.has_shal hsh,hv] at hk;cases hk
     exact .inr rfl
   . simp only [M.new] at hv1 ⊢
     rw [if_neg h] at hv1
     rw [cQ h] at h1
     exact .inl (hi.own l i b1 v1 k h1 hl1 hv1 (hi.grow hg h1 hl1 hv1 hk))
 . simp only [M.new,World.size_alloc] at hk ⊢
   rcases hk with hk | hk
   . have:=hi.lt k hk;omega
   . omega
 . have get:∀ (i:Nat) b',(top ++ [b])[i]? = some b'->b'.vd=true->top[i]? = some b'/\i≠top.length:=fun i b' h1 h2=>by
    rcases aBl i top.length with h | h
    . rw [aAk h] at h1;exact ⟨h1,by omega⟩
    . rw [aAj h] at h1
      have:=aAg h1
      rw [aAy] at this
      rw [this,hsh] at h2;cases h2
   refine hi.views hg (fun i p e c v h1 hv=>?_) (fun p et sz xs V h1 _=>(get p _ h1 rfl).1)
   obtain ⟨h2,h3⟩:=get i _ h1 rfl
   simp only [M.new] at hv
   rw [if_neg (fun h=>h3 h.2)] at hv
   exact ⟨h2,hv⟩
theorem gE (w:World) (o:Obj):(w.alloc o).heap[w.heap.size]? = some o:=by unfold World.alloc;simp
theorem nT {C:Cx} {H:List (List Blk)} {o:Oper} {tm:List PV} {top:List Blk} {pv:PV} {b:Blk} (hsh:b.vd=false)
 (h:∀ (m:M) (a:Act),Inv m top H->EvR m a tm o.op.operands.toList -> ∃ v vs e u,(execOp a.eval o).run C.P m.w = .ok (.value v) (m.w.alloc (.cells vs e (0,0)))/\blkOf u=some m.w.heap.size /\
   (m.ρ 0 top.length=none->BlkOk (m.new (.cells vs e (0,0)) top.length u) 0 top.length b/\RP (m.new (.cells vs e (0,0)) top.length u) pv v)) :
 bQ C H o tm top pv (top ++ [b]):=by
 intro m a hi he hf next Q hn
 obtain ⟨v,vs,e,u,hr,hu,hh⟩:=h m a hi he
 have hfree:m.ρ 0 top.length=none:=hf _ (aBo _) (by simp)
 obtain ⟨hb,hp⟩:=hh hfree
 unfold Oper.wp
 rw [hr]
 refine hn v (m.new (.cells vs e (0,0)) top.length u) (gD _ _ _ _ hfree) (fun l j hj=>?_) (fun j b' u' k h1 h2 hu' hk=>?_) (mY hi hfree hu hsh hb) hp
 . simp only [M.new]
   rw [if_neg]
   rintro ⟨rfl,rfl⟩
   exact hj ⟨rfl,aBo _,by simp⟩
 . obtain rfl:j=top.length:=by have:=(aAe.1 h2).1;simp at this;omega
   simp only [M.new,and_self,if_true,Option.some.injEq] at hu'
   subst hu'
   rw [show (top ++ [b])[top.length]? = some b by simp] at h2;cases h2
   rw [Blk.has_shal hsh,hu] at hk
   cases hk
   exact aBo _
theorem pU (m:M) (v:Value):RP m (pvZero v) v:=by
 unfold pvZero
 split <;> first | exact .kb _ | exact .d _ _ (.int _ _) | exact .d _ _ (.str _) | exact .nils | exact .any _
theorem aP {C:Cx} (hC:C.Ok) {r:TyRow} (hr:r ∈ C.L):∃ i z d,C.P.info? r.t=some i/\i.size=r.size/\i.bytes=r.bytes/\i.zero=some z/\z.cells.toList.map pvZero=r.zero/\C.P.underlying r.t=some d/\tyOf d=r.ty:=by
 obtain ⟨h1,h2⟩:=hC.rows r hr
 obtain ⟨i,hi,h1⟩:=aBq.1 h1
 obtain ⟨d,hd,h2⟩:=aBq.1 h2
 simp only [Prod.mk.injEq] at h1
 obtain ⟨h3,h4,h5⟩:=h1
 obtain ⟨z,hz,h5⟩:=aBq.1 h5
 exact ⟨i,z,d,hi,h3,h4,hz,h5,hd,h2⟩
theorem aU {P:Program} {t:TypeId} {d:TypeDesc} (h:P.underlying t=some d) (w:World):(underlying t).run P w = .ok d w:=run_underlying h w
theorem bS {P:Program} {t:TypeId} {i:TypeInfo} (h:P.info? t=some i) (w:World):(sizeOf t).run P w = .ok i.size w:=by simp [sizeOf,typeInfo,h]
theorem gF {P:Program} {t:TypeId} {i:TypeInfo} {z:Value} (h:P.info? t=some i) (hz:i.zero=some z) (w:World):(zeroValue t).run P w = .ok z w:=by simp [zeroValue,typeInfo,h,hz]
theorem uP {P:Program} {t:TypeId} {d:TypeDesc} (h:P.underlying t=some d) (w:World):(isAgg t).run P w = .ok (tyOf d).isAgg w:=by
 simp only [isAgg,Sem.run_bind,aU h,Result.andThen_ok]
 cases d <;> rfl
theorem gI {p:PV} {K:List PV->Prop} (h:cellsK p K):∃ cs,K cs/\(∀ q ∈ cs,q.cell=true) /\ ∀ m v,RP m p v->v.cells.size=cs.length /\ ∀ (j:Nat) q u,cs[j]? = some q->v.cells[j]? = some u->RP m q u:=by
 have all:∀ {cs:List PV} {K:Prop},allCellK cs K->(∀ q ∈ cs,q.cell=true)/\K:=by
  intro cs K h
  induction cs with
  | nil=>exact ⟨fun q hq=>(by cases hq),h⟩
  | cons c cs ih=>
    rw [allCellK_cons] at h
    split at h
    . rename_i hc
      obtain ⟨h1,h2⟩:=ih h
      exact ⟨fun q hq=>by cases hq with | head=>exact hc | tail _ hq=>exact h1 q hq,h2⟩
    . exact h.elim
 have one:∀ (p:PV),p.cell=true->K [p] -> ∃ cs,K cs/\(∀ q ∈ cs,q.cell=true) /\ ∀ m v,RP m p v->v.cells.size=cs.length /\ ∀ (j:Nat) q u,cs[j]? = some q->v.cells[j]? = some u->RP m q u:=by
  intro p hp hk
  refine ⟨[p],hk,fun q hq=>by simp at hq;subst hq;exact hp,fun m v hv=>?_⟩
  have h1:=hv.one hp
  have hc:v.cells = #[v]:=by cases v <;> first | rfl | (simp [Value.oneCell'] at h1)
  rw [hc]
  refine ⟨rfl,fun j q u hj hu=>?_⟩
  cases j with
  | zero=>simp at hj hu;subst hj;subst hu;exact hv
  | succ j=>simp at hj
 cases p with
 | any=>exact h.elim
 | tuple cs=>exact h.elim
 | agg cs=>
   obtain ⟨h1,h2⟩:=all h
   refine ⟨cs,h2,h1,fun m v hv=>?_⟩
   cases hv with
   | agg _ vs e hh=>exact ⟨e.symm,hh⟩
 | kb b=>exact one _ rfl h
 | ub=>exact one _ rfl h
 | d x=>exact one _ rfl h
 | nils=>exact one _ rfl h
 | emp=>exact one _ rfl h
 | row l i n=>exact one _ rfl h
 | ptr l i o=>exact one _ rfl h
 | rptr l i sz e j=>exact one _ rfl h
 | iptr cs=>exact one _ rfl h
 | func fn a b=>exact one _ rfl h
 | yld Y=>exact one _ rfl h
 | lits xs=>exact one _ rfl h
theorem bT (g o j:Nat):(⟨g,o,none⟩:Addr).add j=⟨g,o+j,none⟩:=by unfold Addr.add;split <;> simp_all
theorem lU {top:List Blk} {H:List (List Blk)} {l i:Nat} {K:Blk->Prop} (h:blkK top H l i K):∃ b,getB top H l i=some b/\K b:=by
 cases l with
 | zero=>exact getK_spec.1 h
 | succ l=>
   obtain ⟨t,ht,h⟩:=getK_spec.1 h
   obtain ⟨b,hb,h⟩:=getK_spec.1 h
   exact ⟨b,by simp [getB,ht,hb],h⟩
theorem lV {xs:List DV} {K:List PV->Prop} (h:pvsK xs K):K (xs.map .d):=by
 induction xs generalizing K with
 | nil=>exact h
 | cons x xs ih=>exact ih h
theorem rM {p:PV} {K:DV->Prop} (h:dvK p K):∃ x,K x /\ ∀ m v,RP m p v->RD m.w m.ok x v:=by
 cases p <;> simp only [dvK] at h <;> try exact h.elim
 . rename_i b;exact ⟨_,h,fun m v hv=>by cases hv;exact .bool b⟩
 . rename_i x;exact ⟨_,h,fun m v hv=>by cases hv;assumption⟩
 . refine ⟨_,h,fun m v hv=>?_⟩
   cases hv
   exact .sl 0 [] none 0 0 default (fun _=>undef) rfl (aBo _) (by omega) (by omega) (by simp) (fun i x j y hx=>by simp at hx) (fun i x j y hx=>by simp at hx)
 . refine ⟨_,h,fun m v hv=>?_⟩
   cases hv with
   | emp ad=>exact .sl 0 [] (some ad) 0 0 default (fun _=>undef) rfl (aBo _) (by omega) (by omega) (by simp) (fun i x j y hx=>by simp at hx) (fun i x j y hx=>by simp at hx)
theorem dR {ps:List PV} {K:List DV->Prop} (h:dvsK ps K):∃ xs,K xs/\xs.length=ps.length /\ ∀ m,∀ (vs:Nat->Value),(∀ (j:Nat) p,ps[j]? = some p->RP m p (vs j)) -> ∀ (j:Nat) x,xs[j]? = some x->RD m.w m.ok x (vs j):=by
 induction ps generalizing K with
 | nil=>exact ⟨[],h,rfl,fun m vs _ j x hx=>by simp at hx⟩
 | cons p ps ih=>
   obtain ⟨x,h,hx⟩:=rM h
   obtain ⟨xs,h,hl,hxs⟩:=ih h
   refine ⟨x::xs,h,by simp [hl],fun m vs hv j y hy=>?_⟩
   cases j with
   | zero=>simp at hy;subst hy;exact hx m _ (hv 0 p rfl)
   | succ j=>exact hxs m (fun j=>vs (j+1)) (fun j p hp=>hv (j+1) p hp) j y hy
theorem fW {C:Cx} (hC:C.Ok) {r:TyRow} (hr:r ∈ C.L) {w:World} {ad:Addr} {vs:List Value} (hc:∀ (j:Nat) v,vs[j]? = some v->w.cell? (ad.add j)=some v) (hl:vs.length=r.size)
 (h1:r.ty.isAgg=false->r.size=1):(Instr.loadAt r.t (.pointer (some ad))).run C.P w = .ok (if r.ty.isAgg then .agg vs.toArray else vs.getD 0 undef) w:=by
 obtain ⟨i,z,d,hi,hs,hb,hz,hzz,hd,hty⟩:=aP hC hr
 simp only [Instr.loadAt,Instr.sureAddr,Sem.run_bind,Sem.run_pure,Result.andThen_ok,loadVar,uP hd,hty]
 cases ha:r.ty.isAgg with
 | true=>simp only [if_true,Sem.run_bind,bS hi,Result.andThen_ok,hs,<- hl,run_loadCells_list w ad vs hc,Sem.run_pure]
 | false=>
   have h1:=h1 ha
   obtain ⟨u,rfl⟩:∃ u,vs = [u]:=by
    match vs,hl,h1 with
    | [u],_,_=>exact ⟨u,rfl⟩
    | [],hl,h1=>simp at hl;omega
    | _::_::_,hl,h1=>simp at hl;omega
   have:=hc 0 u rfl
   have h0:ad.add 0=ad:=rfl
   rw [h0] at this
   simp [this]
theorem eT {r:TyRow} {ys:List PV} {K:PV->Prop} (h:wholeK r ys K):∃ q,K q/\(r.ty.isAgg=false->ys.length=1) /\ ∀ m (vs:List Value),vs.length=ys.length->(∀ (j:Nat) p v,ys[j]? = some p->vs[j]? = some v->RP m p v) ->
 RP m q (if r.ty.isAgg then .agg vs.toArray else vs.getD 0 undef):=by
 unfold wholeK at h
 cases ha:r.ty.isAgg with
 | true=>
   rw [ha] at h
   exact ⟨_,h,fun h=>(by cases h),fun m vs hl hr=>.agg _ _ (by simp [hl]) (fun j p v hp hv=>hr j p v hp (by simpa using hv))⟩
 | false=>
   rw [ha] at h
   match ys,h with
   | [y],h=>
     refine ⟨y,h,fun _=>rfl,fun m vs hl hr=>?_⟩
     match vs,hl with
     | [u],_=>exact hr 0 y u rfl rfl
   | [],h=>exact h.elim
   | _::_::_,h=>exact h.elim
theorem vR {l:Nat} {ys:List PV} {K:Prop} (h:nearK l ys K):(l=0 \/ ∀ p ∈ ys,p.inv=true)/\K:=by
 cases l with
 | zero=>exact ⟨.inl rfl,h⟩
 | succ l=>
   simp only [nearK,ifK] at h
   split at h
   . rename_i ha;exact ⟨.inr (by simpa using ha),h⟩
   . exact h.elim
theorem nF {top:List Blk} {p e c:Nat} {K:Nat->Nat->List (List DV)->Prop} (h:ownAtK top p e c K):∃ e2 sz2 ys,K e2 sz2 ys /\ ∃ et sz0 xs0 x0,top[p]? = some (.deep et sz0 xs0)/\xs0[e]? = some x0/\x0[c]? = some (.own e2 sz2 ys):=by
 unfold ownAtK at h
 obtain ⟨b,hb,h⟩:=getK_spec.1 h
 split at h
 . obtain ⟨x0,h1,h⟩:=h
   obtain ⟨y,hy,h⟩:=getK_spec.1 h
   split at h
   . exact ⟨_,_,_,h,_,_,_,x0,hb,h1,hy⟩
   . exact h.elim
 . exact h.elim
theorem oQ {C:Cx} (hC:C.Ok) {H:List (List Blk)} {top:List Blk} {t:Nat} {p:PV} {K:PV->Prop} (h:loadK C H top t p K) :
 ∃ q,K q /\ ∀ m v,Inv m top H->RP m p v -> ∃ u,(Instr.loadAt t v).run C.P m.w = .ok u m.w/\RP m q u:=by
 obtain ⟨r,hr,ht,hk⟩:=lookK_spec h
 clear h
 subst ht
 have h:=hk
 clear hk
 cases p with
 | ptr l i o=>
   obtain ⟨b,hb,h⟩:=lU h
   cases b with
   | box cs=>
     obtain ⟨hlen,h⟩:=subK_spec.1 h
     obtain ⟨hnear,h⟩:=vR h
     obtain ⟨q,hq,hone,hrel⟩:=eT h
     refine ⟨q,hq,fun m v hi hv=>?_⟩
     cases hv with
     | ptr _ _ _ g hρ=>
       obtain ⟨g',vs,e,hg',hg,hs,hcs⟩:=hi.blk l i _ hb _ hρ
       cases hg'
       have hL:((vs.toList.drop o).take r.size).length=r.size:=by
        rw [aAl,aAq,aBy,hs];omega
       have hone':r.ty.isAgg=false->r.size=1:=fun ha=>by
        have:=hone ha
        rw [aAl,aAq] at this;omega
       refine ⟨_,fW hC hr (vs:=(vs.toList.drop o).take r.size) (fun j v hj=>?_) hL hone',hrel m _ ?_ (fun j p v hp hv=>?_)⟩
       . rw [bT]
         have hj2:vs[o+j]? = some v:=by
          rcases aBl j r.size with hlt | hge
          . rw [List.getElem?_take_of_lt hlt,aA1] at hj;simpa using hj
          . rw [List.getElem?_eq_none (by omega)] at hj;cases hj
         simp [World.cell?,hg,hj2]
       . rw [hL,aAl,aAq];omega
       . rcases aBl j r.size with hlt | hge
         . rw [List.getElem?_take_of_lt hlt,aA1] at hp hv
           have hp2:p ∈ (cs.drop o).take r.size:=aAg (i:=j) (by rw [List.getElem?_take_of_lt hlt,aA1];exact hp)
           have:=hcs (o+j) p v hp (by simpa using hv)
           rcases hnear with rfl | hall
           . exact this
           . exact RP.other (m:=m.up l) (m':=m) rfl (fun _ h=>h) (hall p hp2) this
         . rw [List.getElem?_eq_none (by omega)] at hv;cases hv
   | dead=>exact h.elim
   | gen Y st=>exact h.elim
   | row e sz xs=>exact h.elim
   | deep e sz xs=>exact h.elim
   | sub _ _ _=>exact h.elim
 | rptr l i sz e j=>
   obtain ⟨b,hb,h⟩:=lU h
   cases b with
   | row e' sz' xs=>
     simp only [ifK] at h
     split at h
     . rename_i hsz
       have hsz:=aBj hsz
       obtain ⟨x,hx,h⟩:=h
       obtain ⟨hlen,h⟩:=subK_spec.1 h
       obtain ⟨q,hq,hone,hrel⟩:=eT (lV h)
       refine ⟨q,hq,fun m v hi hv=>?_⟩
       cases hv with
       | rptr _ _ _ _ _ g N c hρ=>
         obtain ⟨h0,hxs,flat,ho,hc⟩:=hi.blk l i _ hb _ hρ
         subst hsz
         have hxl:x.length=sz':=hxs x (aAg hx)
         have hel:e < xs.length:=(aAe.1 hx).1
         have hfl:flat.length=xs.length*sz':=ho.1
         have hle:e*sz'+sz'<=flat.length:=by rw [hfl,<- Nat.succ_mul];exact Nat.mul_le_mul_right _ hel
         have hL:((flat.drop (e*sz'+j)).take r.size).length=r.size:=by rw [aAl,aAq];omega
         have hone':r.ty.isAgg=false->r.size=1:=fun ha=>by
          have:=hone ha
          rw [aAh,aAl,aAq] at this;omega
         refine ⟨_,fW hC hr (vs:=(flat.drop (e*sz'+j)).take r.size) (fun k v hk=>?_) hL hone',hrel m _ ?_ (fun k p v hp hv=>?_)⟩
         . rw [bT]
           have hk2:flat[e*sz'+j+k]? = some v:=by
            rcases aBl k r.size with hlt | hge
            . rw [List.getElem?_take_of_lt hlt,aA1] at hk;exact hk
            . rw [List.getElem?_eq_none (by omega)] at hk;cases hk
           have:=ho.cells (g:=g) rfl _ v hk2
           rwa [bT,Nat.zero_add] at this
         . rw [hL,aAh,aAl,aAq];omega
         . rcases aBl k r.size with hlt | hge
           . rw [aAi,List.getElem?_take_of_lt hlt,aA1] at hp
             rw [List.getElem?_take_of_lt hlt,aA1] at hv
             obtain ⟨y,hy,rfl⟩:=aBq.1 hp
             exact .d _ _ (hc e x (j+k) y v hx hy (by rw [<- Nat.add_assoc];exact hv))
           . rw [List.getElem?_eq_none (by omega)] at hv;cases hv
     . exact h.elim
   | dead=>exact h.elim
   | gen Y st=>exact h.elim
   | box cs=>exact h.elim
   | deep _ _ _=>exact h.elim
   | sub _ _ _=>exact h.elim
 | iptr cs=>
   obtain ⟨hlen,h⟩:=subK_spec.1 h
   obtain ⟨q,hq,hone,hrel⟩:=eT (lV h)
   refine ⟨q,hq,fun m v hi hv=>?_⟩
   cases hv with
   | iptr _ ad u hc hr'=>
     have hL:((List.range r.size).map u).length=r.size:=by simp
     have hone':r.ty.isAgg=false->r.size=1:=fun ha=>by
      have:=hone ha
      rw [aAh,aAl,aAq] at this;omega
     refine ⟨_,fW hC hr (vs:=(List.range r.size).map u) (fun k v hk=>?_) hL hone',hrel m _ ?_ (fun k p v hp hv=>?_)⟩
     . rcases aBl k r.size with hlt | hge
       . obtain ⟨y,hy⟩:∃ y,cs[k]? = some y:=⟨_,aAf (by omega)⟩
         simp [hlt] at hk
         rw [(hc k y hy).2,hk]
       . rw [List.getElem?_eq_none (by omega)] at hk;cases hk
     . rw [hL,aAh,aAl,aAq];omega
     . rcases aBl k r.size with hlt | hge
       . rw [aAi,List.getElem?_take_of_lt hlt,aA1,Nat.zero_add] at hp
         obtain ⟨y,hy,rfl⟩:=aBq.1 hp
         simp [hlt] at hv
         subst hv
         exact .d _ _ (hr' k y hy)
       . rw [List.getElem?_eq_none (by omega)] at hv;cases hv
 | any=>exact h.elim
 | kb b=>exact h.elim
 | ub=>exact h.elim
 | d x=>exact h.elim
 | nils=>exact h.elim
 | emp=>exact h.elim
 | row l i n=>exact h.elim
 | func fn a b=>exact h.elim
 | agg cs=>exact h.elim
 | tuple cs=>exact h.elim
 | yld Y=>exact h.elim
 | lits xs=>exact h.elim
theorem nG {C:Cx} (hC:C.Ok) {t:Nat} {p:PV} {fld:Nat} {K:PV->Prop} (h:fieldK C t p fld K) :
 ∃ q,K q /\ ∀ m v,RP m p v -> ∃ u,(∀ w,(Instr.fieldAt t v fld).run C.P w = .ok u w)/\RP m q u:=by
 obtain ⟨r,hr,ht,hk⟩:=lookK_spec h
 clear h
 subst ht
 have h:=hk
 clear hk
 obtain ⟨i,z,d,hi,hs,hb,hz,hzz,hd,hty⟩:=aP hC hr
 split at h
 . rename_i fs hfs
   obtain ⟨⟨o,ft⟩,hf,h⟩:=getK_spec.1 h
   obtain ⟨r',hr',ht',hk⟩:=lookK_spec h
   clear h
   subst ht'
   have h:=hk
   clear hk
   obtain ⟨i',z',d',hi',hs',hb',hz',hzz',hd',hty'⟩:=aP hC hr'
   rw [hfs] at hty
   cases d <;> simp only [tyOf] at hty <;> try (cases hty;done)
   rename_i fields
   simp only [Ty.struct.injEq] at hty
   subst hty
   obtain ⟨fl,hfl,he⟩:=aAi .. ▸ hf |> fun (h:(fields.toList[fld]?).map _=_)=>aBq.1 h
   simp only [Prod.mk.injEq] at he
   obtain ⟨rfl,he2⟩:=he
   simp only [ifK] at h
   split at h
   . rename_i hsz
     have hsz:0 < r'.size:=by simpa [Nat.blt_eq] using hsz
     have hrun:∀ (w:World) (ad:Addr),(Instr.fieldAt r.t (.pointer (some ad)) fld).run C.P w = .ok (.pointer (some (ad.add fl.offset))) w:=fun w ad=>by
      have hff:fields[fld]? = some fl:=by simpa using hfl
      simp only [Instr.fieldAt,Sem.run_bind,aU hd,Result.andThen_ok,hff,Instr.sureAddr,Sem.run_pure,fieldPlace,he2,bS hi',hs']
      rw [if_neg (by omega)]
      rfl
     cases p with
     | ptr l i o'=>refine ⟨_,h,fun m v hv=>?_⟩;cases hv with | ptr _ _ _ g hρ=>exact ⟨_,fun w=>hrun w _,by rw [bT];exact .ptr _ _ _ _ hρ⟩
     | rptr l i sz e j=>refine ⟨_,h,fun m v hv=>?_⟩;cases hv with | rptr _ _ _ _ _ g N c hρ=>exact ⟨_,fun w=>hrun w _,by rw [bT,Nat.add_assoc];exact .rptr _ _ _ _ _ _ _ _ hρ⟩
     | iptr cs=>
       obtain ⟨hl,h⟩:=dropK_spec.1 h
       refine ⟨_,h,fun m v hv=>?_⟩
       cases hv with
       | iptr _ ad u hc hr2=>
         have hblk:(ad.add fl.offset).block=ad.block:=by unfold Addr.add;split <;> rfl
         have hadd:∀ k,(ad.add fl.offset).add k=ad.add (fl.offset+k):=fun k=>by unfold Addr.add;by_cases h1:fl.offset=0 <;> by_cases h2:k=0 <;> simp [h1,h2,Nat.add_assoc]
         refine ⟨_,fun w=>hrun w _,.iptr _ _ (fun k=>u (fl.offset+k)) (fun k y hy=>?_) (fun k y hy=>?_)⟩
         . rw [aA1] at hy;rw [hadd,hblk];exact hc _ y hy
         . rw [aA1] at hy;exact hr2 _ y hy
     | any=>exact h.elim
     | kb b=>exact h.elim
     | ub=>exact h.elim
     | d x=>exact h.elim
     | nils=>exact h.elim
     | emp=>exact h.elim
     | row l i n=>exact h.elim
     | func fn a b=>exact h.elim
     | agg cs=>exact h.elim
     | tuple cs=>exact h.elim
     | yld Y=>exact h.elim
     | lits xs=>exact h.elim
   . exact h.elim
 . exact h.elim
theorem jU (a:Addr) (n:Nat):(a.add n).block=a.block:=by unfold Addr.add;split <;> rfl
theorem add_add (a:Addr) (i j:Nat):(a.add i).add j=a.add (i+j):=by
 unfold Addr.add;by_cases h1:i=0 <;> by_cases h2:j=0 <;> simp [h1,h2,Nat.add_assoc]
theorem wS {m:M} {cs:List DV} {ad:Addr} (h:RP m (.iptr cs) (.pointer (some ad))) (n:Nat):RP m (.iptr (cs.drop n)) (.pointer (some (ad.add n))):=by
 cases h with
 | iptr _ _ u hc hr=>
   refine .iptr _ _ (fun k=>u (n+k)) (fun k y hy=>?_) (fun k y hy=>?_)
   . rw [aA1] at hy;rw [add_add,jU];exact hc _ y hy
   . rw [aA1] at hy;exact hr _ y hy
theorem wT {C:Cx} (hC:C.Ok) {H:List (List Blk)} {top:List Blk} {t:Nat} {p:PV} {n:Int} {K:PV->Prop} (h:idxK C H top t p n K) :
 ∃ q,K q /\ ∀ m v k,Inv m top H->RP m p v -> ∃ u,(Instr.indexAt t v (.int k n)).run C.P m.w = .ok u m.w/\RP m q u:=by
 obtain ⟨r,hr,ht,hk⟩:=lookK_spec h
 clear h
 subst ht
 have h:=hk
 clear hk
 obtain ⟨i,z,d,hi,hs,hb,hz,hzz,hd,hty⟩:=aP hC hr
 split at h
 . rename_i e he
   obtain ⟨r',hr',ht',hk⟩:=lookK_spec h
   clear h
   subst ht'
   have h:=hk
   clear hk
   obtain ⟨i',z',d',hi',hs',hb',hz',hzz',hd',hty'⟩:=aP hC hr'
   rw [he] at hty
   cases d <;> simp only [tyOf] at hty <;> try (cases hty;done)
   rename_i e2
   simp only [Ty.slice.injEq] at hty
   subst hty
   have hrun:∀ (w:World) (a:Addr) (len c:Nat) (k:IntKind),0<=n->n < (len:Int)->(Instr.indexAt r.t (.slice (some a) len c) (.int k n)).run C.P w = .ok (.pointer (some (a.add (n.toNat*r'.size)))) w:=by
    intro w a len c k h0 h1
    simp [Instr.indexAt,asIntOf,aU hd,h0,h1,bS hi',hs']
   split at h
   . rename_i xs
     obtain ⟨h0,y,hy,hyl,hq⟩:=h
     refine ⟨_,hq,fun m v k _ hv=>?_⟩
     cases hv with
     | d _ _ hv=>
       cases hv with
       | sl sz _ A n' c ad u hn hc hm hA hsz hcell hrr=>
         have hlt:n.toNat < xs.length:=(aAe.1 hy).1
         have hAs:A=some ad:=hA (by omega)
         subst hAs
         have hsz':r'.size=sz:=by rw [<- hyl];exact hsz y (aAg hy)
         refine ⟨_,hrun m.w ad n' c k h0 (by omega),.iptr _ _ (fun j=>u (n.toNat*sz+j)) (fun j y' hy'=>?_) (fun j y' hy'=>?_)⟩
         . rw [add_add,jU,hsz'];exact hcell _ y j y' hy hy'
         . exact hrr _ y j y' hy hy'
   . rename_i l j m'
     obtain ⟨b,hb2,h⟩:=lU h
     split at h
     . rename_i e3 sz xs
       simp only [ifK] at h
       split at h
       . rename_i hsz
         have hsz:=aBj hsz
         obtain ⟨h0,h1,hq⟩:=h
         refine ⟨_,hq,fun m v k hinv hv=>?_⟩
         cases hv with
         | row _ _ _ N c A hρ hn hNc=>
           obtain ⟨hp,hxs,flat,ho,hc⟩:=hinv.blk l j _ hb2 _ hρ
           rcases ho.2 with ⟨h2,_⟩ | ⟨g,cap,cur,h2,hg⟩
           . simp only [Value.slice.injEq] at h2;omega
           . simp only [Value.slice.injEq] at h2
             obtain ⟨rfl,rfl,rfl⟩:=h2
             refine ⟨_,hrun m.w _ m' c k h0 h1,?_⟩
             rw [bT,Nat.zero_add,show n.toNat*r'.size=n.toNat*r'.size+0 by omega]
             exact .rptr _ _ _ _ _ _ _ _ hρ
       . exact h.elim
     . rename_i e3 sz xs
       simp only [ifK] at h
       split at h
       . obtain ⟨h0,h1,hq⟩:=h
         refine ⟨_,hq,fun m v k hinv hv=>?_⟩
         cases hv with
         | row _ _ _ N c A hρ hn hNc=>
           obtain ⟨flat,_,_,ho,_⟩:=RO.parts (hinv.blk l j _ hb2 _ hρ)
           obtain ⟨g,rfl⟩:=(owns_hdr ho).2 (by omega)
           refine ⟨_,hrun m.w _ m' c k h0 h1,?_⟩
           rw [bT,Nat.zero_add,show n.toNat*r'.size=n.toNat*r'.size+0 by omega]
           exact .rptr _ _ _ _ _ _ _ _ hρ
       . exact h.elim
     . rename_i p e c
       split at h
       . obtain ⟨e2,sz2,ys,h,et,sz0,xs0,x0,w1,w2,w3⟩:=nF h
         simp only [ifK] at h
         split at h
         . obtain ⟨h0,h1,hq⟩:=h
           refine ⟨_,hq,fun m v k hinv hv=>?_⟩
           cases hv with
           | row _ _ _ N c' A hρ hn hNc=>
             obtain ⟨V,flat0,_,_,_,_,hro⟩:=hinv.at hb2 w1 w2 w3 hρ
             obtain ⟨flat,_,_,ho,_⟩:=hro.parts
             obtain ⟨g,rfl⟩:=(owns_hdr ho).2 (by omega)
             refine ⟨_,hrun m.w _ m' c' k h0 h1,?_⟩
             rw [bT,Nat.zero_add,show n.toNat*r'.size=n.toNat*r'.size+0 by omega]
             exact .rptr _ _ _ _ _ _ _ _ hρ
         . exact h.elim
       . exact h.elim
     . exact h.elim
   . exact h.elim
 . rename_i len e he
   obtain ⟨r',hr',ht',hk⟩:=lookK_spec h
   clear h
   subst ht'
   have h:=hk
   clear hk
   obtain ⟨i',z',d',hi',hs',hb',hz',hzz',hd',hty'⟩:=aP hC hr'
   rw [he] at hty
   cases d <;> simp only [tyOf] at hty <;> try (cases hty;done)
   rename_i len2 e2
   simp only [Ty.arr.injEq] at hty
   obtain ⟨rfl,rfl⟩:=hty
   have len:=len2
   have hrun:∀ (w:World) (a:Addr) (k:IntKind),0<=n->n < (len2:Int)->(Instr.indexAt r.t (.pointer (some a)) (.int k n)).run C.P w = .ok (.pointer (some (a.add (n.toNat*r'.size)))) w:=by
    intro w a k h0 h1
    simp [Instr.indexAt,asIntOf,aU hd,h0,h1,bS hi',hs',Instr.sureAddr]
   split at h
   . rename_i l j o
     obtain ⟨h0,h1,k0,rfl,hq⟩:=h
     refine ⟨_,hq,fun m v k hinv hv=>?_⟩
     cases hv with
     | ptr _ _ _ g hρ=>
       refine ⟨_,hrun m.w _ k h0 h1,?_⟩
       rw [bT];exact .ptr _ _ _ _ hρ
   . rename_i l j sz e' j'
     obtain ⟨h0,h1,k0,rfl,hq⟩:=h
     refine ⟨_,hq,fun m v k hinv hv=>?_⟩
     cases hv with
     | rptr _ _ _ _ _ g N c hρ=>
       refine ⟨_,hrun m.w _ k h0 h1,?_⟩
       rw [bT,Nat.add_assoc];exact .rptr _ _ _ _ _ _ _ _ hρ
   . rename_i cs
     obtain ⟨h0,h1,k0,rfl,hq⟩:=h
     obtain ⟨hl,hq⟩:=dropK_spec.1 hq
     refine ⟨_,hq,fun m v k hinv hv=>?_⟩
     cases hv with
     | iptr _ ad u hc hr2=>exact ⟨_,hrun m.w _ k h0 h1,wS (.iptr _ _ u hc hr2) _⟩
   . exact h.elim
 . exact h.elim
theorem dH {m:M} (b:Bool):RP m (.d (.bool b)) (.bool b):=.d _ _ (.bool b)
theorem cW {m:M} (k:IntKind) (n:Int):RP m (.d (.int k n)) (.int k n):=.d _ _ (.int k n)
theorem tV {op:BinOp} {k:IntKind} {a b:Int} {K:PV->Prop} (h:intOpK op k a b K) :
 ∃ q,K q /\ ∀ (P:Program) (m:M) (t:TypeId) (x y:Operand),∃ u,(do eqGuard op t x y (.int k a) (.int k b);binOp op t (.int k a) (.int k b)).run P m.w = .ok u m.w/\RP m q u:=by
 cases op <;> simp only [intOpK] at h <;> try exact h.elim
 . exact ⟨_,h _ rfl,fun P m t x y=>⟨_,by simp [eqGuard,binOp,Op.intArith] <;> rfl,cW _ _⟩⟩
 . exact ⟨_,h _ rfl,fun P m t x y=>⟨_,by simp [eqGuard,binOp,Op.intArith] <;> rfl,cW _ _⟩⟩
 . exact ⟨_,h _ rfl,fun P m t x y=>⟨_,by simp [eqGuard,binOp,Op.intArith] <;> rfl,cW _ _⟩⟩
 . exact ⟨_,h.2 _ rfl,fun P m t x y=>⟨_,by simp [eqGuard,binOp,Op.intDiv,h.1] <;> rfl,cW _ _⟩⟩
 . exact ⟨_,h.2 _ rfl,fun P m t x y=>⟨_,by simp [eqGuard,binOp,Op.intDiv,h.1] <;> rfl,cW _ _⟩⟩
 . exact ⟨_,h _ rfl,fun P m t x y=>⟨_,by simp [eqGuard,binOp,Op.intBits] <;> rfl,cW _ _⟩⟩
 . exact ⟨_,h _ rfl,fun P m t x y=>⟨_,by simp [eqGuard,binOp,Op.intBits] <;> rfl,cW _ _⟩⟩
 . exact ⟨_,h _ rfl,fun P m t x y=>⟨_,by simp [eqGuard,binOp,Op.intBits] <;> rfl,cW _ _⟩⟩
 . exact ⟨_,h.2.2 _ rfl,fun P m t x y=>⟨_,by
    have h0:¬ b < 0:=by omega
    have h1:min b.toNat k.bits=b.toNat:=by omega
    simp [eqGuard,binOp,Op.shift,h0,h1] <;> rfl,cW _ _⟩⟩
 . exact ⟨_,h,fun P m t x y=>⟨_,by simp [eqGuard,binOp,Op.intCmp] <;> rfl,dH _⟩⟩
 . exact ⟨_,h,fun P m t x y=>⟨_,by simp [eqGuard,binOp,Op.intCmp] <;> rfl,dH _⟩⟩
 . exact ⟨_,h,fun P m t x y=>⟨_,by simp [eqGuard,binOp,Op.intCmp] <;> rfl,dH _⟩⟩
 . exact ⟨_,h,fun P m t x y=>⟨_,by simp [eqGuard,binOp,Op.intCmp] <;> rfl,dH _⟩⟩
 . exact ⟨_,h,fun P m t x y=>⟨_,by simp [eqGuard,binOp,Op.intCmp] <;> rfl,dH _⟩⟩
 . exact ⟨_,h,fun P m t x y=>⟨_,by simp [eqGuard,binOp,Op.intCmp] <;> rfl,dH _⟩⟩
theorem tW {op:BinOp} {a b:ByteArray} {K:PV->Prop} (h:strOpK op a b K) :
 ∃ q,K q /\ ∀ (P:Program) (m:M) (t:TypeId) (x y:Operand),∃ u,(do eqGuard op t x y (.string a) (.string b);binOp op t (.string a) (.string b)).run P m.w = .ok u m.w/\RP m q u:=by
 cases op <;> simp only [strOpK] at h <;> try exact h.elim
 all_goals exact ⟨_,h,fun P m t x y=>⟨_,by simp only [eqGuard,binOp,Op.stringOp];rfl,dH _⟩⟩
theorem lW {op:BinOp} {a b:Bool} {K:PV->Prop} (h:boolOpK op a b K) :
 ∃ q,K q /\ ∀ (P:Program) (m:M) (t:TypeId) (x y:Operand),P.underlying t=some .bool -> ∃ u,(do eqGuard op t x y (.bool a) (.bool b);binOp op t (.bool a) (.bool b)).run P m.w = .ok u m.w/\RP m q u:=by
 have heq:∀ (P:Program) (t:TypeId) (w:World),P.underlying t=some .bool->(Op.equal t (.bool a) (.bool b)).run P w = .ok (a==b) w:=by
  intro P t w ht
  have:∀ d,(Op.equalIn (d+1) t (.bool a) (.bool b)).run P w = .ok (a==b) w:=fun d=>by
   simp only [Op.equalIn,Sem.run_bind,aU ht,Result.andThen_ok,Sem.run_pure]
  exact this 9999
 cases op <;> simp only [boolOpK] at h <;> try exact h.elim
 . exact ⟨_,h,fun P m t x y ht=>⟨_,by simp [eqGuard,binOp,heq P t m.w ht] <;> rfl,dH _⟩⟩
 . exact ⟨_,h,fun P m t x y ht=>⟨_,by simp [eqGuard,binOp,heq P t m.w ht] <;> rfl,dH _⟩⟩
theorem kL (P:Program) (t e:TypeId) (w:World) (A:Option Addr) (n c:Nat) (ht:P.underlying t=some (.slice e)):(Op.equal t (.slice A n c) (.slice none 0 0)).run P w = .ok A.isNone w:=by
 have:∀ d,(Op.equalIn (d+1) t (.slice A n c) (.slice none 0 0)).run P w = .ok A.isNone w:=fun d=>by
  cases A <;> simp only [Op.equalIn,Sem.run_bind,aU ht,Result.andThen_ok,Sem.run_pure] <;> rfl
 exact this 9999
theorem rN {op:BinOp} {xs:List (List DV)} {K:PV->Prop} (h:nilCmpK op xs K) :
 ∃ r,K r /\ ∀ (P:Program) (m:M) (t e:TypeId) (x y:Operand) (A:Option Addr) (n c:Nat),P.underlying t=some (.slice e)->(xs ≠ []->A.isNone=false) ->
   ∃ u,(do eqGuard op t x y (.slice A n c) (.slice none 0 0);binOp op t (.slice A n c) (.slice none 0 0)).run P m.w = .ok u m.w/\RP m r u:=by
 cases op <;> simp only [nilCmpK] at h <;> try exact h.elim
 . by_cases hx:xs = []
   . exact ⟨_,h.1 hx,fun P m t e x y A n c ht _=>⟨.bool A.isNone,by simp [eqGuard,binOp,kL P t e m.w A n c ht],.ub _⟩⟩
   . exact ⟨_,h.2 hx,fun P m t e x y A n c ht hA=>⟨.bool A.isNone,by simp [eqGuard,binOp,kL P t e m.w A n c ht],by rw [hA hx];exact .kb _⟩⟩
 . by_cases hx:xs = []
   . exact ⟨_,h.1 hx,fun P m t e x y A n c ht _=>⟨.bool (!A.isNone),by simp [eqGuard,binOp,kL P t e m.w A n c ht],.ub _⟩⟩
   . exact ⟨_,h.2 hx,fun P m t e x y A n c ht hA=>⟨.bool (!A.isNone),by simp [eqGuard,binOp,kL P t e m.w A n c ht],by rw [hA hx];exact .kb _⟩⟩
theorem rO {op:BinOp} {K:PV->Prop} (h:nilNilK op K) :
 ∃ r,K r /\ ∀ (P:Program) (m:M) (t e:TypeId) (x y:Operand),P.underlying t=some (.slice e) ->
   ∃ u,(do eqGuard op t x y (.slice none 0 0) (.slice none 0 0);binOp op t (.slice none 0 0) (.slice none 0 0)).run P m.w = .ok u m.w/\RP m r u:=by
 cases op <;> simp only [nilNilK] at h <;> try exact h.elim
 . exact ⟨_,h,fun P m t e x y ht=>⟨.bool true,by simp [eqGuard,binOp,kL P t e m.w none 0 0 ht],.kb _⟩⟩
 . exact ⟨_,h,fun P m t e x y ht=>⟨.bool false,by simp [eqGuard,binOp,kL P t e m.w none 0 0 ht],.kb _⟩⟩
theorem uQ {d:TypeDesc} {ty:Ty} (h:tyOf d=ty) (hb:ty.isBool=true):d = .bool:=by
 subst h;cases d <;> simp [tyOf,Ty.isBool] at hb <;> rfl
theorem nU {d:TypeDesc} {ty:Ty} (h:tyOf d=ty) (hb:ty.isSlice=true):∃ e,d = .slice e:=by
 subst h;cases d <;> simp [tyOf,Ty.isSlice] at hb <;> exact ⟨_,rfl⟩
theorem nH {op:BinOp} {a:Bool} {q:PV} {K:PV->Prop} (h:boolsK op a q K):∃ b r,K r/\(∀ m v,RP m q v->v = .bool b) /\
 ∀ (P:Program) (m:M) (t:TypeId) (x y:Operand),P.underlying t=some .bool -> ∃ u,(do eqGuard op t x y (.bool a) (.bool b);binOp op t (.bool a) (.bool b)).run P m.w = .ok u m.w/\RP m r u:=by
 unfold boolsK at h
 split at h
 . obtain ⟨r,hr,hh⟩:=lW h
   exact ⟨_,r,hr,fun m v hv=>(by cases hv with | d _ _ hv=>cases hv;rfl),hh⟩
 . obtain ⟨r,hr,hh⟩:=lW h
   exact ⟨_,r,hr,fun m v hv=>(by cases hv;rfl),hh⟩
 . exact h.elim
theorem qO:∀ (ps qs:List PV) (K:Bool->Prop),eqsK ps qs K -> ∃ b,K b /\ ∀ (P:Program) (m:M) (e:TypeId) (k0:IntKind),P.underlying e=some (.int k0) -> ∀ (d:Nat) (xs ys:Array Value) (off:Nat),
 (∀ (j:Nat) p,ps[j]? = some p -> ∃ v,xs[off+j]? = some v/\RP m p v)->(∀ (j:Nat) p,qs[j]? = some p -> ∃ v,ys[off+j]? = some v/\RP m p v)->(Op.eqItems (d+1) e 1 xs ys (List.range' off ps.length)).run P m.w = .ok b m.w:=by
 intro ps
 induction ps with
 | nil=>
   intro qs K h
   rw [eqsK_nil] at h
   split at h
   . exact ⟨true,h,fun P m e k0 hu d xs ys off h1 h2=>by simp [Op.eqItems]⟩
   . exact h.elim
 | cons p ps ih=>
   intro qs K h
   rw [eqsK_cons] at h
   split at h
   . rename_i k a
     split at h
     . rename_i k' b qs'
       simp only [ifK] at h
       split at h
       . rename_i hk
         obtain rfl:=kEq_eq hk
         obtain ⟨r,hr,hh⟩:=ih _ _ h
         refine ⟨_,hr,fun P m e k0 hu d xs ys off h1 h2=>?_⟩
         obtain ⟨v,hv,hva⟩:=h1 0 _ rfl
         obtain ⟨u,hw,hub⟩:=h2 0 _ rfl
         have hva:v = .int k a:=by cases hva with | d _ _ hva=>cases hva;rfl
         have hub:u = .int k b:=by cases hub with | d _ _ hub=>cases hub;rfl
         subst hva;subst hub
         have hpl:P.plainKey e=true:=by unfold Program.plainKey;rw [hu]
         have heq:(Op.equalIn (d+1) e (.int k a) (.int k b)).run P m.w = .ok (a==b) m.w:=by simp [Op.equalIn,aU hu]
         rw [aAn,List.range'_succ]
         rw [Nat.add_zero] at hv hw
         have p1:(part e xs (off*1)).run P m.w = .ok (.int k a) m.w:=by rw [Nat.mul_one];exact run_part_plain m.w hpl hv
         have p2:(part e ys (off*1)).run P m.w = .ok (.int k b) m.w:=by rw [Nat.mul_one];exact run_part_plain m.w hpl hw
         simp only [Op.eqItems,Sem.run_bind,p1,p2,heq,Result.andThen_ok]
         cases hab:(a==b) with
         | false=>simp
         | true=>
           simp only [Bool.not_true,Bool.false_eq_true,if_false,Bool.true_and]
           exact hh P m e k0 hu d xs ys (off+1) (fun j p hp=>by have:=h1 (j+1) p (by simpa using hp);rwa [show off+(j+1)=off+1+j by omega] at this) (fun j p hp=>by have:=h2 (j+1) p (by simpa using hp);rwa [show off+(j+1)=off+1+j by omega] at this)
       . exact h.elim
     . exact h.elim
   . exact h.elim
theorem ty_arr {d:TypeDesc} {ty:Ty} {n e:Nat} (h:tyOf d=ty) (hb:ty = .arr n e):d = .array n e:=by
 subst hb;cases d <;> simp [tyOf] at h;obtain ⟨rfl,rfl⟩:=h;rfl
theorem ty_int {d:TypeDesc} {ty:Ty} {k:IntKind} (h:tyOf d=ty) (hb:ty = .int k):d = .int k:=by
 subst hb;cases d <;> simp [tyOf] at h;subst h;rfl
theorem wU {P:Program} {t e:TypeId} {n:Nat} {k:IntKind} (ht:P.underlying t=some (.array n e)) (he:P.underlying e=some (.int k)):P.eqGuardType P.depth t=false:=by
 unfold Program.depth
 rw [show 2*(P.types.size+Made.depth)+2=(2*(P.types.size+Made.depth))+1+1 by omega]
 simp [Program.eqGuardType,ht,he]
theorem wV {C:Cx} (hC:C.Ok) {op:BinOp} {t:Nat} {p q:PV} {K:PV->Prop} (h:binK C op t p q K) :
 ∃ r,K r /\ ∀ m v v' x y,RP m p v->RP m q v' -> ∃ u,(do eqGuard op t x y v v';binOp op t v v').run C.P m.w = .ok u m.w/\RP m r u:=by
 unfold binK at h
 split at h
 . rename_i k a
   split at h
   . rename_i k' b
     simp only [ifK] at h
     split at h
     . rename_i hk
       obtain rfl:=kEq_eq hk
       obtain ⟨r,hr,hh⟩:=tV h
       refine ⟨r,hr,fun m v v' x y hv hv'=>?_⟩
       cases hv with | d _ _ hv=>cases hv;cases hv' with | d _ _ hv'=>cases hv';exact hh C.P m t x y
     . exact h.elim
   . exact h.elim
 . rename_i a
   split at h
   . obtain ⟨r,hr,hh⟩:=tW h
     refine ⟨r,hr,fun m v v' x y hv hv'=>?_⟩
     cases hv with | d _ _ hv=>cases hv;cases hv' with | d _ _ hv'=>cases hv';exact hh C.P m t x y
   . exact h.elim
 . rename_i a
   obtain ⟨r,hr,ht,hk⟩:=lookK_spec h
   subst ht
   obtain ⟨i,z,d,hi,hs,hb,hz,hzz,hd,hty⟩:=aP hC hr
   simp only [ifK] at hk
   split at hk
   . rename_i hbool
     obtain rfl:=uQ hty hbool
     obtain ⟨b,r',hr',hq,hh⟩:=nH hk
     refine ⟨r',hr',fun m v v' x y hv hv'=>?_⟩
     cases hv with | d _ _ hv=>cases hv;rw [hq m v' hv'];exact hh C.P m _ x y hd
   . exact hk.elim
 . rename_i a
   obtain ⟨r,hr,ht,hk⟩:=lookK_spec h
   subst ht
   obtain ⟨i,z,d,hi,hs,hb,hz,hzz,hd,hty⟩:=aP hC hr
   simp only [ifK] at hk
   split at hk
   . rename_i hbool
     obtain rfl:=uQ hty hbool
     obtain ⟨b,r',hr',hq,hh⟩:=nH hk
     refine ⟨r',hr',fun m v v' x y hv hv'=>?_⟩
     cases hv;rw [hq m v' hv'];exact hh C.P m _ x y hd
   . exact hk.elim
 . rename_i xs
   obtain ⟨r,hr,ht,hk⟩:=lookK_spec h
   subst ht
   obtain ⟨i,z,d,hi,hs,hb,hz,hzz,hd,hty⟩:=aP hC hr
   simp only [ifK] at hk
   split at hk
   . rename_i hsl
     obtain ⟨e,rfl⟩:=nU hty hsl
     split at hk
     . obtain ⟨r',hr',hh⟩:=rN hk
       refine ⟨r',hr',fun m v v' x y hv hv'=>?_⟩
       cases hv with
       | d _ _ hv=>
         cases hv with
         | sl sz _ A n c ad u hn hc hm hA hs hcell hr=>
           cases hv'
           refine hh C.P m _ e x y _ _ _ hd fun hx=>?_
           have:0 < n:=by rw [<- hn];exact List.length_pos_iff.2 hx
           rw [hA this];rfl
     . exact hk.elim
   . exact hk.elim
 . obtain ⟨r,hr,ht,hk⟩:=lookK_spec h
   subst ht
   obtain ⟨i,z,d,hi,hs,hb,hz,hzz,hd,hty⟩:=aP hC hr
   simp only [ifK] at hk
   split at hk
   . rename_i hsl
     obtain ⟨e,rfl⟩:=nU hty hsl
     split at hk
     . obtain ⟨r',hr',hh⟩:=rO hk
       refine ⟨r',hr',fun m v v' x y hv hv'=>?_⟩
       cases hv;cases hv'
       exact hh C.P m _ e x y hd
     . exact hk.elim
   . exact hk.elim
 . rename_i ps
   split at h
   rotate_left
   . exact h.elim
   rename_i qs
   obtain ⟨r,hr,ht,hk⟩:=lookK_spec h
   clear h
   subst ht
   obtain ⟨i,z,d,hi,hs,hb,hz,hzz,hd,hty⟩:=aP hC hr
   split at hk
   . rename_i n e hra
     obtain rfl:=ty_arr hty hra
     obtain ⟨re,hre,hte,hk2⟩:=lookK_spec hk
     clear hk
     have hk:=hk2
     clear hk2
     subst hte
     obtain ⟨ie,ze,de,hie,hse,hbe,hze,hzze,hde,htye⟩:=aP hC hre
     split at hk
     . rename_i k0 hri
       obtain rfl:=ty_int htye hri
       simp only [ifK] at hk
       split at hk
       . rename_i hsz
         . rw [lenK_spec] at hk
           split at hk
           . rename_i hn
             have hsz:=aBj hsz
             have hn:=aBj hn
             obtain ⟨b,hb',hh⟩:=qO _ _ _ hk
             have key:∀ (m:M) (v v':Value),RP m (.agg ps) v->RP m (.agg qs) v' -> ∃ xs ys,v = .agg xs/\v' = .agg ys/\(Op.equal r.t (.agg xs) (.agg ys)).run C.P m.w = .ok b m.w:=fun m v v' hv hv'=>by
              cases hv with
              | agg _ xs h1 h2=>
                cases hv' with
                | agg _ ys h3 h4=>
                  refine ⟨xs,ys,rfl,rfl,?_⟩
                  have hc:C.P.cellsOf re.t=1:=by simp [Program.cellsOf,hie,hse,hsz]
                  show (Op.equalIn (9999+1) r.t (.agg xs) (.agg ys)).run C.P m.w=_
                  rw [run_equalIn_array m.w 9999 xs ys hd hie,hc,List.range_eq_range',<- hn]
                  refine hh C.P m re.t k0 hde 9998 xs ys 0 (fun j p hp=>?_) (fun j p hp=>?_)
                  . have hj:=(aAe.1 hp).1
                    rw [Nat.zero_add]
                    exact ⟨xs[j]'(by omega),Array.getElem?_eq_getElem _,h2 j p _ hp (Array.getElem?_eq_getElem _)⟩
                  . have hj:=(aAe.1 hp).1
                    rw [Nat.zero_add]
                    exact ⟨ys[j]'(by omega),Array.getElem?_eq_getElem _,h4 j p _ hp (Array.getElem?_eq_getElem _)⟩
             have hg:=wU hd hde
             cases op <;> simp only [aggOpK] at hb' <;> try exact hb'.elim
             . refine ⟨_,hb',fun m v v' x y hv hv'=>?_⟩
               obtain ⟨xs,ys,rfl,rfl,he⟩:=key m v v' hv hv'
               exact ⟨.bool b,by simp [eqGuard,binOp,he,hg],.d _ _ (.bool b)⟩
             . refine ⟨_,hb',fun m v v' x y hv hv'=>?_⟩
               obtain ⟨xs,ys,rfl,rfl,he⟩:=key m v v' hv hv'
               exact ⟨.bool (!b),by simp [eqGuard,binOp,he,hg],.d _ _ (.bool (!b))⟩
           . exact hk.elim
       . exact hk.elim
     . exact hk.elim
   . exact hk.elim
 . exact h.elim
theorem wW {C:Cx} (hC:C.Ok) {r r':TyRow} (hr:r ∈ C.L) (hr':r' ∈ C.L) (hty0:r.ty = .slice r'.t) {xs:List (List DV)} {lo hi:Option PV} {K:PV->Prop} (h:cutK r'.size xs lo hi K) :
 ∃ q,K q /\ ∀ m v (lv hv:Option Value),RP m (.d (.sl xs)) v->(∀ p,lo=some p -> ∃ u,lv=some u/\RP m p u)->(lo=none->lv=none)->(∀ p,hi=some p -> ∃ u,hv=some u/\RP m p u)->(hi=none->hv=none) ->
   ∃ u,(∀ w,(Instr.sliceAt r.t v lv hv none).run C.P w = .ok u w)/\RP m q u:=by
 obtain ⟨i,z,d,hi',hs,hb,hz,hzz,hd,hty⟩:=aP hC hr
 obtain ⟨i',z',d',hi2,hs',hb',hz',hzz',hd',hty'⟩:=aP hC hr'
 rw [hty0] at hty
 obtain ⟨e,rfl⟩:∃ e,d = .slice e:=by cases d <;> simp [tyOf] at hty <;> exact ⟨_,rfl⟩
 simp only [tyOf,Ty.slice.injEq] at hty
 subst hty
 have at_:∀ (w:World) (v:Value) (lv hv mx:Option Value),(Instr.sliceAt r.t v lv hv mx).run C.P w=(Instr.slice r.t v lv hv mx).run C.P w:=fun w v lv hv mx=>by
  simp only [Instr.sliceAt,Sem.run_bind,aU hd,Result.andThen_ok]
 have cut:∀ (m:M) (A:Option Addr) (n c l h:Nat),RD m.w m.ok (.sl xs) (.slice A n c)->l<=h->h<=n->(l≠0 -> ∀ x ∈ xs,x.length=r'.size) ->
  RP m (.d (.sl ((xs.take h).drop l))) (.slice (if c=l then A else A.map (·.add (l*r'.size))) (h - l) (c - l)):=by
  intro m A n c l h hx hlh hhn hsize
  cases hx with
  | sl sz _ _ _ _ ad u hn hc hm hA hsz hcell hr=>
    have hlen:((xs.take h).drop l).length=h - l:=by rw [aAq,aAl];omega
    have hA':0 < h - l->(if c=l then A else A.map (·.add (l*r'.size)))=some (ad.add (l*sz)):=by
     intro h0
     have hAs:=hA (by omega)
     rw [if_neg (by omega),hAs]
     simp only [aBz]
     rcases Nat.eq_zero_or_pos l with rfl | hl
     . simp
     . obtain ⟨x,hx⟩:∃ x,x ∈ xs:=⟨xs[0]'(by omega),aBf _⟩
       rw [<- hsize (by omega) x hx,hsz x hx]
    refine .d _ _ (.sl sz _ _ _ _ (ad.add (l*sz)) (fun k=>u (l*sz+k)) hlen (by omega) (by omega) hA' (fun x hx=>hsz x (aA6 (aA7 hx))) (fun a x j y hx hy=>?_) (fun a x j y hx hy=>?_))
    . have hx':xs[l+a]? = some x:=by
       rw [aA1] at hx
       have:l+a < h:=by
        rcases aBl (l+a) h with h1 | h1
        . exact h1
        . rw [List.getElem?_eq_none (by rw [aAl];omega)] at hx;cases hx
       rwa [List.getElem?_take_of_lt this] at hx
      have:=hcell (l+a) x j y hx' hy
      rw [add_add,jU]
      rw [Nat.add_mul,Nat.add_assoc] at this
      exact this
    . have hx':xs[l+a]? = some x:=by
       rw [aA1] at hx
       have:l+a < h:=by
        rcases aBl (l+a) h with h1 | h1
        . exact h1
        . rw [List.getElem?_eq_none (by rw [aAl];omega)] at hx;cases hx
       rwa [List.getElem?_take_of_lt this] at hx
      have:=hr (l+a) x j y hx' hy
      rw [Nat.add_mul,Nat.add_assoc] at this
      exact this
 unfold cutK at h
 split at h
 . refine ⟨_,h,fun m v lv hv hx _ hl0 _ hh0=>?_⟩
   rw [hl0 rfl,hh0 rfl]
   cases hx with
   | d _ _ hx=>
     cases hx with
     | sl sz _ A n c ad u hn hc hm hA hsz hcell hr=>
       have hx:RD m.w m.ok (.sl xs) (.slice A n c):=.sl sz xs A n c ad u hn hc hm hA hsz hcell hr
       have:=cut m A n c 0 n hx (aBn _) (aBo _) (fun h=>absurd rfl h)
       refine ⟨_,fun w=>by rw [at_];simp [Instr.slice,aU hd,Instr.sliceBounds,bS hi2,hs'];rfl,?_⟩
       rw [aAt (by omega)] at this
       simpa using this
 . rename_i k hh
   obtain ⟨h0,h1,hq⟩:=h
   refine ⟨_,hq,fun m v lv hv hx _ hl0 hhs _=>?_⟩
   obtain ⟨u,rfl,hu⟩:=hhs _ rfl
   cases hu with | d _ _ hu=>cases hu;rw [hl0 rfl];cases hx with
    | d _ _ hx=>
      cases hx with
      | sl sz _ A n c ad u hn hc hm hA hsz hcell hr=>
        have hx:RD m.w m.ok (.sl xs) (.slice A n c):=.sl sz xs A n c ad u hn hc hm hA hsz hcell hr
        have:=cut m A n c 0 hh.toNat hx (aBn _) (by omega) (fun h=>absurd rfl h)
        refine ⟨_,fun w=>by rw [at_];simp [Instr.slice,aU hd,Instr.sliceBounds,Instr.sliceBound,asIntOf,bS hi2,hs',h0,show hh<=(c:Int) by omega];rfl,?_⟩
        simpa using this
 . rename_i k l
   obtain ⟨hsize,h0,h1,hq⟩:=h
   refine ⟨_,hq,fun m v lv hv hx hls _ _ hh0=>?_⟩
   obtain ⟨u,rfl,hu⟩:=hls _ rfl
   cases hu with | d _ _ hu=>cases hu;rw [hh0 rfl];cases hx with
    | d _ _ hx=>
      cases hx with
      | sl sz _ A n c ad u hn hc hm hA hsz hcell hr=>
        have hx:RD m.w m.ok (.sl xs) (.slice A n c):=.sl sz xs A n c ad u hn hc hm hA hsz hcell hr
        have:=cut m A n c l.toNat n hx (by omega) (aBo _) (fun _=>hsize)
        refine ⟨_,fun w=>by rw [at_];simp [Instr.slice,aU hd,Instr.sliceBounds,Instr.sliceBound,asIntOf,bS hi2,hs',h0,show l<=(n:Int) by omega];rfl,?_⟩
        rw [aAt (by omega)] at this
        exact this
 . rename_i k l k' hh
   obtain ⟨hsize,h0,h1,h2,hq⟩:=h
   refine ⟨_,hq,fun m v lv hv hx hls _ hhs _=>?_⟩
   obtain ⟨u,rfl,hu⟩:=hls _ rfl
   obtain ⟨u',rfl,hu'⟩:=hhs _ rfl
   cases hu with | d _ _ hu=>cases hu;cases hu' with | d _ _ hu'=>cases hu';cases hx with
    | d _ _ hx=>
      cases hx with
      | sl sz _ A n c ad u hn hc hm hA hsz hcell hr=>
        have hx:RD m.w m.ok (.sl xs) (.slice A n c):=.sl sz xs A n c ad u hn hc hm hA hsz hcell hr
        have:=cut m A n c l.toNat hh.toNat hx (by omega) (by omega) (fun _=>hsize)
        refine ⟨_,fun w=>by rw [at_];simp [Instr.slice,aU hd,Instr.sliceBounds,Instr.sliceBound,asIntOf,bS hi2,hs',h0,show 0<=hh by omega,show hh<=(c:Int) by omega,show l<=max hh 0 by omega];rfl,?_⟩
        exact this
 . exact h.elim
theorem tX {C:Cx} (hC:C.Ok) {r r':TyRow} (hr:r ∈ C.L) (hr':r' ∈ C.L) (hty0:r.ty = .slice r'.t) {p:PV} {lo hi:Option PV} {K:PV->Prop} (h:sliceK r'.size p lo hi K) :
 ∃ q,K q /\ ∀ m v (lv hv:Option Value),RP m p v->(∀ p,lo=some p -> ∃ u,lv=some u/\RP m p u)->(lo=none->lv=none)->(∀ p,hi=some p -> ∃ u,hv=some u/\RP m p u)->(hi=none->hv=none) ->
   ∃ u,(∀ w,(Instr.sliceAt r.t v lv hv none).run C.P w = .ok u w)/\RP m q u:=by
 unfold sliceK at h
 split at h
 . obtain ⟨q,hq,hh⟩:=wW hC hr hr' hty0 h
   exact ⟨q,hq,hh⟩
 . rename_i l i n
   obtain ⟨ii,z,d,hi',hs,hb,hz,hzz,hd,hty⟩:=aP hC hr
   obtain ⟨i',z',d',hi2,hs',hb',hz',hzz',hd',hty'⟩:=aP hC hr'
   rw [hty0] at hty
   obtain ⟨e,rfl⟩:∃ e,d = .slice e:=by cases d <;> simp [tyOf] at hty <;> exact ⟨_,rfl⟩
   simp only [tyOf,Ty.slice.injEq] at hty
   subst hty
   split at h
   . rename_i k hh
     obtain ⟨h0,h1,hq⟩:=h
     refine ⟨_,hq,fun m v lv hv hx _ hl0 hhs _=>?_⟩
     obtain ⟨u,rfl,hu⟩:=hhs _ rfl
     cases hu with | d _ _ hu=>cases hu;rw [hl0 rfl];cases hx with
      | row _ _ _ N c A hρ hn hNc=>
        have hA:(if c=0 then A else A.map (·.add (0*r'.size)))=A:=by
         split
         . rfl
         . cases A <;> simp [Addr.add]
        refine ⟨.slice A hh.toNat c,fun w=>?_,.row _ _ _ N c A hρ (by omega) hNc⟩
        simp only [Instr.sliceAt,Sem.run_bind,aU hd,Result.andThen_ok]
        simp [Instr.slice,aU hd,Instr.sliceBounds,Instr.sliceBound,asIntOf,bS hi2,hs',h0,show hh<=(c:Int) by omega]
        cases A <;> simp [Addr.add]
   . exact h.elim
 . exact h.elim
theorem tY {C:Cx} (hC:C.Ok) {r r':TyRow} (hr:r ∈ C.L) (hr':r' ∈ C.L) {n:Nat} (hty0:r.ty = .arr n r'.t) {p:PV} {lo hi:Option PV} {K:PV->Prop} (h:arrSlK r'.size n p lo hi K) :
 ∃ q,K q /\ ∀ m v (lv hv:Option Value),RP m p v->(∀ p,lo=some p -> ∃ u,lv=some u/\RP m p u)->(lo=none->lv=none)->(∀ p,hi=some p -> ∃ u,hv=some u/\RP m p u)->(hi=none->hv=none) ->
   ∃ u,(∀ w,(Instr.sliceAt r.t v lv hv none).run C.P w = .ok u w)/\RP m q u:=by
 obtain ⟨ii,z,d,hi',hs,hb,hz,hzz,hd,hty⟩:=aP hC hr
 obtain ⟨i',z',d',hi2,hs',hb',hz',hzz',hd',hty'⟩:=aP hC hr'
 rw [hty0] at hty
 obtain ⟨n2,e,rfl⟩:∃ n2 e,d = .array n2 e:=by cases d <;> simp [tyOf] at hty <;> exact ⟨_,_,rfl⟩
 simp only [tyOf,Ty.arr.injEq] at hty
 obtain ⟨rfl,rfl⟩:=hty
 unfold arrSlK at h
 split at h
 . rename_i cs
   split at h
   . obtain ⟨h0,h1,hq⟩:=h
     have h0:0 < n2/\n2<=65536:=by simpa using h0
     refine ⟨_,hq,fun m v lv hv hx _ hl _ hh=>?_⟩
     obtain rfl:=hl rfl
     obtain rfl:=hh rfl
     cases hx with
     | iptr _ ad u hc hrr=>
       have at_:∀ (i:Nat) x,((List.range n2).map fun i=>(cs.drop (i*r'.size)).take r'.size)[i]? = some x->i < n2/\x=(cs.drop (i*r'.size)).take r'.size:=fun i x hx=>by
        rw [aAi] at hx
        obtain ⟨k,hk,rfl⟩:=aBq.1 hx
        obtain ⟨hlt,hk⟩:=aAe.1 hk
        simp at hk hlt
        subst hk
        exact ⟨hlt,rfl⟩
       have le_:∀ i,i < n2->i*r'.size+r'.size<=cs.length:=fun i hi=>by
        have:(i+1)*r'.size<=n2*r'.size:=Nat.mul_le_mul_right _ hi
        rw [Nat.succ_mul] at this;omega
       have get_:∀ (i:Nat) x (j:Nat) y,((List.range n2).map fun i=>(cs.drop (i*r'.size)).take r'.size)[i]? = some x->x[j]? = some y->cs[i*r'.size+j]? = some y:=fun i x j y hx hy=>by
        obtain ⟨hi,rfl⟩:=at_ i x hx
        rw [aA0] at hy
        split at hy
        . rw [aA1] at hy;exact hy
        . cases hy
       refine ⟨.slice (some ad) n2 n2,fun w=>?_,.d _ _ (.sl r'.size _ (some ad) n2 n2 ad u (by simp) (aBo _) (by omega) (fun _=>rfl) (fun x hx=>?_) (fun i x j y hx hy=>?_) (fun i x j y hx hy=>?_))⟩
       . simp only [Instr.sliceAt,Sem.run_bind,aU hd,Result.andThen_ok]
         simp [Instr.sureAddr,Instr.sliceBounds,bS hi2,hs',Addr.add,show ¬ n2=0 by omega]
       . obtain ⟨i,hi⟩:=aB4.1 hx
         obtain ⟨hi2,rfl⟩:=at_ i x hi
         have:=le_ i hi2
         rw [aAl,aAq];omega
       . exact hc _ _ (get_ i x j y hx hy)
       . exact hrr _ _ (get_ i x j y hx hy)
   . exact h.elim
 . exact h.elim
theorem oR {C:Cx} (hC:C.Ok) {t:Nat} {p:PV} {lo hi:Option PV} {K:PV->Prop} (h:slTyK C t p lo hi K) :
 ∃ q,K q /\ ∀ m v (lv hv:Option Value),RP m p v->(∀ p,lo=some p -> ∃ u,lv=some u/\RP m p u)->(lo=none->lv=none)->(∀ p,hi=some p -> ∃ u,hv=some u/\RP m p u)->(hi=none->hv=none) ->
   ∃ u,(∀ w,(Instr.sliceAt t v lv hv none).run C.P w = .ok u w)/\RP m q u:=by
 unfold slTyK at h
 obtain ⟨r,hr,ht_,h_⟩:=lookK_spec h
 clear h
 subst ht_
 have h:=h_
 clear h_
 split at h
 . rename_i e hty0
   obtain ⟨r',hr',ht_,h_⟩:=lookK_spec h
   clear h
   subst ht_
   exact tX hC hr hr' hty0 h_
 . rename_i n e hty0
   obtain ⟨r',hr',ht_,h_⟩:=lookK_spec h
   clear h
   subst ht_
   exact tY hC hr hr' hty0 h_
 . exact h.elim
theorem jJ (off:Nat):∀ (l:List Value) (s:Nat) (arr:Array Value),off+s+l.length<=arr.size ->
 ((l.zipIdx s).foldl (fun cs (x:Value × Nat)=>cs.setIfInBounds (off+x.2) x.1) arr).size=arr.size /\
 ∀ k,((l.zipIdx s).foldl (fun cs (x:Value × Nat)=>cs.setIfInBounds (off+x.2) x.1) arr)[k]? = if off+s<=k/\k < off+s+l.length then l[k - (off+s)]? else arr[k]?
 | [],s,arr,h=>⟨rfl,fun k=>by simp only [List.zipIdx_nil,List.foldl_nil,aAo];rw [if_neg (by omega)]⟩
 | v::l,s,arr,h=>by
   simp only [aAn] at h
   obtain ⟨h1,h2⟩:=jJ off l (s+1) (arr.setIfInBounds (off+s) v) (by simp;omega)
   simp only [List.zipIdx_cons,List.foldl_cons]
   refine ⟨by rw [h1];simp,fun k=>?_⟩
   rw [h2 k]
   by_cases hk:k=off+s
   . subst hk
     rw [if_neg (by omega),if_pos ⟨by omega,by simp⟩]
     simp [show off+s < arr.size by omega]
   . by_cases hk2:off+(s+1)<=k/\k < off+(s+1)+l.length
     . rw [if_pos hk2,if_pos ⟨by omega,by simp;omega⟩]
       rw [show k - (off+s)=(k - (off+(s+1)))+1 by omega]
       rfl
     . rw [if_neg hk2,if_neg (by simp;omega)]
       simp [Array.getElem?_setIfInBounds_ne (Ne.symm hk)]
theorem lX {dA:Nat->Option (Nat × Nat)} {cells:Array Value} {i:Nat} {v:Value} {rest:List (Nat × Value)} {off size:Nat} (hp:dA i=some (off,size)) (hs:v.cells.size=size) (hl:off+size<=cells.size) :
 ∃ cells':Array Value,Instr.fill dA cells ((i,v)::rest)=Instr.fill dA cells' rest/\cells'.size=cells.size /\ ∀ k,cells'[k]? = if off<=k/\k < off+size then v.cells[k - off]? else cells[k]?:=by
 refine ⟨v.cells.zipIdx.foldl (fun cs (c,j)=>cs.setIfInBounds (off+j) c) cells,?_,?_,?_⟩
 . rw [Instr.fill,hp]
   simp only
   rw [if_neg]
   simp only [aB1,decide_eq_true_eq,not_or]
   exact ⟨by simp [hs],by rw [hs];omega⟩
 . rw [<- Array.foldl_toList,Array.toList_zipIdx]
   exact (jJ off v.cells.toList 0 cells (by simp [hs];omega)).1
 . intro k
   rw [<- Array.foldl_toList,Array.toList_zipIdx]
   have:=(jJ off v.cells.toList 0 cells (by simp [hs];omega)).2 k
   simp only [Nat.add_zero,aBy,hs] at this
   rw [show (v.cells.toList.zipIdx.foldl (fun cs (x:Value × Nat)=>match x with | (c,j)=>cs.setIfInBounds (off+j) c) cells)=(v.cells.toList.zipIdx.foldl (fun cs (x:Value × Nat)=>cs.setIfInBounds (off+x.2) x.1) cells) from rfl,this]
   simp
theorem nI {C:Cx} {tm:List PV} {dA:Nat->(Nat->Nat->Prop)->Prop} {pl:Nat->Option (Nat × Nat)} (hpl:∀ i K,dA i K -> ∃ o s,pl i=some (o,s)/\K o s) {xs:List Operand} :
 ∀ (parts:List (Nat × Operand)) (cs:List PV) (K:List PV->Prop),buildK C tm dA parts cs K->(∀ x ∈ parts,x.2 ∈ xs) ->
   ∃ cs',K cs' /\ ∀ (m:M) (a:Act) (arr:Array Value),EvR m a tm xs->arr.size=cs.length->(∀ (j:Nat) p u,cs[j]? = some p->arr[j]? = some u->RP m p u) ->
     ∃ arr',Instr.fill pl arr (parts.map fun x=>(x.1,a.eval x.2))=some arr'/\arr'.size=cs'.length /\ ∀ (j:Nat) p u,cs'[j]? = some p->arr'[j]? = some u->RP m p u
 | [],cs,K,h,_=>⟨cs,h,fun m a arr _ hs hr=>⟨arr,rfl,hs,hr⟩⟩
 | (i,x)::rest,cs,K,h,hsub=>by
   rw [buildK_cons] at h
   obtain ⟨p,hp,h⟩:=aT h
   obtain ⟨ys,h,hcell,hys⟩:=gI h
   obtain ⟨o,s,hpl1,h⟩:=hpl _ _ h
   rw [lenK_spec] at h
   simp only [ifK] at h
   split at h
   . rename_i hb
     have hb:=aBj hb
     obtain ⟨hle,h⟩:=putK_spec.1 h
     obtain ⟨cs',hk,hh⟩:=nI (C:=C) hpl rest _ K h (fun x hx=>hsub x (aAv _ hx))
     refine ⟨cs',hk,fun m a arr he hs hr=>?_⟩
     obtain ⟨hsz,hcs⟩:=hys m (a.eval x) (aO he (hsub (i,x) aAu) hp)
     obtain ⟨arr2,hf,hs2,hg⟩:=lX (dA:=pl) (cells:=arr) (i:=i) (v:=a.eval x) (rest:=rest.map fun x=>(x.1,a.eval x.2)) hpl1 (by rw [hsz,hb]) (by rw [hs,<- hb];exact hle)
     have hrel:∀ (j:Nat) q u,(cs.take o++ys++cs.drop (o+ys.length))[j]? = some q->arr2[j]? = some u->RP m q u:=by
      intro j q u hq hu
      rw [hg j] at hu
      by_cases hj:o<=j/\j < o+s
      . rw [if_pos hj] at hu
        refine hcs (j - o) q u ?_ hu
        rw [aBb,aAj (by rw [aAl];omega),aAl,Nat.min_eq_left (by omega),aAk (by omega)] at hq
        exact hq
      . rw [if_neg hj] at hu
        refine hr j q u ?_ hu
        rcases aBl j o with h1 | h1
        . rw [aBb,aAk (by rw [aAl];omega),List.getElem?_take_of_lt h1] at hq
          exact hq
        . rw [aAj (by simp;omega)] at hq
          simp only [aAm,aAl,aA1] at hq
          rw [Nat.min_eq_left (by omega),show o+ys.length+(j - (o+ys.length))=j by omega] at hq
          exact hq
     obtain ⟨arr',h1,h2,h3⟩:=hh m a arr2 he (by rw [hs2,hs];simp;omega) hrel
     exact ⟨arr',by rw [List.map_cons];exact hf.trans h1,h2,h3⟩
   . exact h.elim
theorem gJ {tm:List PV} {ys:List Operand}:∀ {xs:List Operand} {K:List PV->Prop},evsK tm xs K->(∀ x ∈ xs,x ∈ ys) -> ∃ ps,K ps/\ps.length=xs.length /\
 ∀ m a,EvR m a tm ys -> ∀ (j:Nat) p x,ps[j]? = some p->xs[j]? = some x->RP m p (a.eval x)
 | [],K,h,_=>⟨[],h,rfl,fun m a _ j p x hp=>by simp at hp⟩
 | x::xs,K,h,hs=>by
   obtain ⟨p,hp,h⟩:=aT h
   obtain ⟨ps,hk,hl,hr⟩:=gJ h (fun x hx=>hs x (aAv _ hx))
   refine ⟨p::ps,hk,by simp [hl],fun m a he j q y hq hy=>?_⟩
   cases j with
   | zero=>simp at hq hy;subst hq;subst hy;exact aO he (hs x aAu) hp
   | succ j=>exact hr m a he j q y hq hy
theorem iL {tm:List PV} {x:Option Operand} {K:Option PV->Prop} (h:optEvK tm x K) :
 ∃ q,K q/\(x=none->q=none) /\ ∀ y,x=some y -> ∃ p,q=some p/\ev? tm y=some p:=by
 cases x with
 | none=>exact ⟨none,h,fun _=>rfl,fun y hy=>by cases hy⟩
 | some x=>
   obtain ⟨p,hp,h⟩:=aT h
   exact ⟨some p,h,fun h=>(by cases h),fun y hy=>by cases hy;exact ⟨p,rfl,hp⟩⟩
theorem oS {P:Program} {w:World}:∀ (l:List Field),(∀ f ∈ l,∃ i,P.info? f.type=some i) ->
 (l.mapM fun f=>(do pure (f.offset,<- sizeOf f.type):Sem (Nat × Nat))).run P w = .ok (l.map fun f=>(f.offset,P.cellsOf f.type)) w
 | [],_=>by simp
 | f::l,h=>by
   obtain ⟨i,hi⟩:=h f aAu
   have hp:=oS (P:=P) (w:=w) l (fun f hf=>h f (aAv _ hf))
   rw [List.mapM_cons]
   simp only [Sem.run_bind,bS hi,Result.andThen_ok,Sem.run_pure,hp,List.map_cons,Program.cellsOf,hi,aBz,aB0]
theorem wX {C:Cx} (hC:C.Ok) {r:TyRow} (hr:r ∈ C.L) (hagg:r.ty.isAgg=true):∃ (pl:Nat->Option (Nat × Nat)),(∀ i K,placeK C r.ty i K -> ∃ o s,pl i=some (o,s)/\K o s) /\
 ∀ (w:World) (parts:Array (Nat × Value)),∃ zero:Array Value,zero.toList.map pvZero=r.zero /\ ∀ arr,Instr.fill pl zero parts.toList=some arr->(Instr.build r.t parts).run C.P w = .ok (.agg arr) w:=by
 obtain ⟨i,z,d,hi,hs,hb,hz,hzz,hd,hty⟩:=aP hC hr
 cases hT:r.ty with
 | struct fs=>
   rw [hT] at hty
   obtain ⟨fields,rfl⟩:∃ f,d = .struct f:=by cases d <;> simp [tyOf] at hty <;> exact ⟨_,rfl⟩
   simp only [tyOf,Ty.struct.injEq] at hty
   have hinfo:∀ f ∈ fields.toList,∃ i,C.P.info? f.type=some i:=by
    intro f hf
    have hc:=hC.closed
    unfold closedB at hc
    rw [aBd] at hc
    have:=hc r hr
    rw [hT] at this
    simp only [aBd,List.any_eq_true] at this
    obtain ⟨r',hr',hb'⟩:=this (f.offset,f.type) (by rw [<- hty];exact List.mem_map_of_mem hf)
    obtain ⟨i',_,_,hi',_⟩:=aP hC hr'
    have e:=aBj hb'
    exact ⟨i',by rw [show f.type=r'.t from e.symm];exact hi'⟩
   refine ⟨fun j=>(fields.toList.map fun f=>(f.offset,C.P.cellsOf f.type))[j]?,fun i K h=>?_,fun w parts=>⟨z.cells,hzz,fun arr hf=>?_⟩⟩
   . obtain ⟨⟨o,ft⟩,hf,h2⟩:=getK_spec.1 h
     obtain ⟨r',hr',hft,h3⟩:=lookK_spec h2
     obtain ⟨i',z',d',hi',hs',_⟩:=aP hC hr'
     rw [<- hty,aAi] at hf
     obtain ⟨fl,hfl,he⟩:=aBq.1 hf
     simp only [Prod.mk.injEq] at he
     obtain ⟨rfl,he⟩:=he
     exact ⟨fl.offset,r'.size,by simp only [aAi,hfl,aBz,he,<- hft,Program.cellsOf,hi',aB0,hs'],h3⟩
   . simp only [Instr.build,Sem.run_bind,gF hi hz,Result.andThen_ok,aU hd]
     rw [Array.mapM_eq_mapM_toList]
     simp only [Sem.run_map,oS fields.toList hinfo,Result.andThen_ok]
     rw [show (fun x=>(fields.toList.map fun f=>(f.offset,C.P.cellsOf f.type)).toArray[x]?)=(fun j=>(fields.toList.map fun f=>(f.offset,C.P.cellsOf f.type))[j]?) from funext fun j=>by simp,hf]
     rfl
 | arr n e=>
   rw [hT] at hty
   obtain ⟨n',e',rfl⟩:∃ n e,d = .array n e:=by cases d <;> simp [tyOf] at hty <;> exact ⟨_,_,rfl⟩
   simp only [tyOf,Ty.arr.injEq] at hty
   obtain ⟨rfl,rfl⟩:=hty
   refine ⟨fun j=>some (j*C.P.cellsOf e',C.P.cellsOf e'),fun i K h=>?_,fun w parts=>⟨z.cells,hzz,fun arr hf=>?_⟩⟩
   . obtain ⟨r',hr',he',h3⟩:=lookK_spec h
     obtain ⟨i',z',d',hi',hs',_⟩:=aP hC hr'
     refine ⟨_,_,rfl,?_⟩
     simp only [Program.cellsOf,<- he',hi',aBz,aB0,hs'];exact h3
   . have hc:=hC.closed
     unfold closedB at hc
     rw [aBd] at hc
     have:=hc r hr
     rw [hT] at this
     simp only [List.any_eq_true] at this
     obtain ⟨r',hr',hb'⟩:=this
     obtain ⟨i',_,_,hi',hs',_⟩:=aP hC hr'
     have e:=aBj hb'
     rw [e] at hi'
     simp only [Program.cellsOf,hi',aBz,aB0] at hf
     simp only [Instr.build,Sem.run_bind,gF hi hz,Result.andThen_ok,aU hd,bS hi',hf]
     rfl
 | bool=>rw [hT] at hagg;cases hagg
 | int k=>rw [hT] at hagg;cases hagg
 | str=>rw [hT] at hagg;cases hagg
 | slice e=>rw [hT] at hagg;cases hagg
 | other=>rw [hT] at hagg;cases hagg
def M.name (m:M) (i:Nat) (v:Value):M:=⟨m.w,fun l j=>if l=0/\j=i then some v else m.ρ l j,m.U⟩
theorem qP (m:M) (i:Nat) (v:Value) (hf:m.ρ 0 i=none):Grow m (m.name i v):=
 ⟨rfl,rfl,rfl,aBo _,fun _ _=>rfl,(fun l j u hu=>by
   show (if l=0/\j=i then some v else m.ρ l j)=some u
   rw [if_neg]
   . exact hu
   . rintro ⟨rfl,rfl⟩;rw [hf] at hu;cases hu),fun _ _=>Iff.rfl⟩
theorem yW {m:M} {top:List Blk} {H:List (List Blk)} (hi:Inv m top H) (hf:m.ρ 0 top.length=none) {p e c et sz:Nat} {xs:List (List DV)} {x:List DV} {e2 sz2:Nat} {ys:List (List DV)} (h1:top[p]? = some (.deep et sz xs)) (h2:xs[e]? = some x) (h3:x[c]? = some (.own e2 sz2 ys)) {V v:Value} (hV:m.ρ 0 p=some V)
 {flat:List Value} (ho:m.w.ownsRow 0 et sz V xs.length flat) (hv:flat[e*sz+c]? = some v):Inv (m.name top.length v) (top ++ [.sub p e c]) H:=by
 have hg:=qP m top.length v hf
 have old:∀ l i b,getB (top ++ [.sub p e c]) H l i=some b->(l=0/\i=top.length/\b = .sub p e c)\/(¬ (l=0/\i=top.length)/\getB top H l i=some b):=fun l i b hb=>by
  by_cases h:l=0/\i=top.length
  . obtain ⟨rfl,rfl⟩:=h
    rw [dP] at hb;cases hb;exact .inl ⟨rfl,rfl,rfl⟩
  . rw [cQ h] at hb;exact .inr ⟨h,hb⟩
 have ho':∀ l i,¬ (l=0/\i=top.length)->(m.name top.length v).ρ l i=m.ρ l i:=fun l i h=>if_neg h
 have live:∀ l i b,getB (top ++ [.sub p e c]) H l i=some b->b.live=true -> ¬ (l=0/\i=top.length)/\getB top H l i=some b:=fun l i b hb hl=>by
  rcases old l i b hb with ⟨_,_,rfl⟩ | h
  . cases hl
  . exact h
 refine ⟨fun l i b hb=>?_,fun l i b l' i' b' u u' k a1 a2 a3 a4 a5 a6 a7 a8=>?_,fun l i b u k a1 a2 a3 a4=>?_,hi.lt,fun i p' e' c' u a1 a2=>?_⟩
 . rcases old l i b hb with ⟨_,_,rfl⟩ | ⟨hn,h⟩
   . trivial
   . exact (hi.blk l i b h).keep hg.keep (ho' l i hn) (fun _ _ _ _ _=>rfl)
 . obtain ⟨n1,g1⟩:=live l i b a1 a2
   obtain ⟨n2,g2⟩:=live l' i' b' a3 a4
   rw [ho' l i n1] at a5;rw [ho' l' i' n2] at a6
   exact hi.inj l i b l' i' b' u u' k g1 a2 g2 a4 a5 a6 a7 a8
 . obtain ⟨n1,g1⟩:=live l i b a1 a2
   rw [ho' l i n1] at a3
   exact hi.own l i b u k g1 a2 a3 a4
 . have hp:p < top.length:=(aAe.1 h1).1
   rcases old 0 i _ a1 with ⟨_,rfl,h⟩ | ⟨hn,h⟩
   . cases h
     have:u=v:=by
      have:(m.name top.length v).ρ 0 top.length=some v:=if_pos ⟨rfl,rfl⟩
      rw [this] at a2;cases a2;rfl
     subst this
     refine ⟨hp,V,by rw [ho' 0 p (by omega)];exact hV,fun et' sz' xs' x' e2' sz2' ys' flat' b1 b2 b3 b4=>?_⟩
     rw [aAk hp,h1] at b1;cases b1
     rw [ownsRow_inj b4 ho];exact hv
   . rw [ho' 0 i hn] at a2
     obtain ⟨q1,V',q2,q3⟩:=hi.sub i p' e' c' u h a2
     have hi':i < top.length:=(aAe.1 h).1
     refine ⟨q1,V',by rw [ho' 0 p' (by omega)];exact q2,fun et' sz' xs' x' e2' sz2' ys' flat' b1 b2 b3 b4=>?_⟩
     rw [aAk (by omega)] at b1
     exact q3 et' sz' xs' x' e2' sz2' ys' flat' b1 b2 b3 b4
theorem kE {H:List (List Blk)} {i e:Nat}:∀ (ys:List DV) (top:List Blk) (j:Nat) (K:List PV->List Blk->Prop),viewsK top i e ys j K ->
 ∃ ps top',K ps top'/\(∃ l,top'=top++l/\fV l=true /\ ∀ b ∈ l,b.isSub=true)/\ps.length=ys.length /\ ∀ (m:M) (et sz:Nat) (xs:List (List DV)) (x:List DV) (V:Value) (flat:List Value) (vs:Nat->Value),Inv m top H->(∀ k,top.length<=k->k < top'.length->m.ρ 0 k=none) ->
   top[i]? = some (.deep et sz xs)->xs[e]? = some x->(∀ (k:Nat) y,ys[k]? = some y->x[j+k]? = some y)->m.ρ 0 i=some V->m.w.ownsRow 0 et sz V xs.length flat->(∀ (k:Nat) y,ys[k]? = some y->flat[e*sz+(j+k)]? = some (vs k)) ->
   ∃ m':M,m'.w=m.w/\Grow m m'/\(∀ l a,¬ (l=0/\top.length<=a/\a < top'.length)->m'.ρ l a=m.ρ l a)/\Inv m' top' H /\ ∀ (k:Nat) p,ps[k]? = some p->RP m' p (vs k)
 | [],top,j,K,h=>⟨[],top,h,⟨[],by simp,rfl,fun b hb=>by cases hb⟩,rfl,fun m et sz xs x V flat vs hi _ _ _ _ _ _ _=>⟨m,rfl,Grow.refl m,fun _ _ _=>rfl,hi,fun k p hp=>by simp at hp⟩⟩
 | y::ys,top,j,K,h=>by
   rw [viewsK_cons] at h
   have plain:(∀ e2 sz2 zs,y ≠ .own e2 sz2 zs)->viewsK top i e ys (j+1) (fun ps top2=>K (.d y::ps) top2) -> ∃ ps top',K ps top'/\(∃ l,top'=top++l/\fV l=true /\ ∀ b ∈ l,b.isSub=true)/\ps.length=(y::ys).length /\ ∀ (m:M) (et sz:Nat) (xs:List (List DV)) (x:List DV) (V:Value) (flat:List Value) (vs:Nat->Value),Inv m top H->(∀ k,top.length<=k->k < top'.length->m.ρ 0 k=none) ->
    top[i]? = some (.deep et sz xs)->xs[e]? = some x->(∀ (k:Nat) y',(y::ys)[k]? = some y'->x[j+k]? = some y')->m.ρ 0 i=some V->m.w.ownsRow 0 et sz V xs.length flat->(∀ (k:Nat) y',(y::ys)[k]? = some y'->flat[e*sz+(j+k)]? = some (vs k)) ->
    ∃ m':M,m'.w=m.w/\Grow m m'/\(∀ l a,¬ (l=0/\top.length<=a/\a < top'.length)->m'.ρ l a=m.ρ l a)/\Inv m' top' H /\ ∀ (k:Nat) p,ps[k]? = some p->RP m' p (vs k):=by
    intro hy h
    obtain ⟨ps,top',hk,hl,hlen,hh⟩:=kE ys top (j+1) _ h
    refine ⟨_,_,hk,hl,by simp [hlen],fun m et sz xs x V flat vs hi hfree h1 h2 h3 h4 h5 h6=>?_⟩
    obtain ⟨m',e1,e2,e3,e4,e5⟩:=hh m et sz xs x V flat (fun k=>vs (k+1)) hi hfree h1 h2 (fun k y' hk=>by have:=h3 (k+1) y' (by simpa using hk);rwa [show j+(k+1)=j+1+k by omega] at this) h4 h5
     (fun k y' hk=>by have:=h6 (k+1) y' (by simpa using hk);rwa [show j+(k+1)=j+1+k by omega] at this)
    refine ⟨m',e1,e2,e3,e4,fun k p hp=>?_⟩
    cases k with
    | zero=>
      simp at hp;subst hp
      obtain ⟨flat',_,_,ho,hr,_⟩:=RO.parts (hi.blk 0 i _ h1 V h4)
      have hfl:=ownsRow_inj h5 ho
      subst hfl
      have hro:=hr e x (j+0) y (vs 0) h2 (h3 0 y rfl) (h6 0 y rfl)
      cases hro with
      | plain _ _ h=>exact .d _ _ (h.keep e2.keep)
      | own e2 sz2 zs=>exact absurd rfl (hy _ _ _)
    | succ k=>exact e5 k p (by simpa using hp)
   cases y with
   | bool b=>exact plain (fun _ _ _ h=>by cases h) h
   | int k n=>exact plain (fun _ _ _ h=>by cases h) h
   | str s=>exact plain (fun _ _ _ h=>by cases h) h
   | sl xs=>exact plain (fun _ _ _ h=>by cases h) h
   | junk=>exact plain (fun _ _ _ h=>by cases h) h
   | val v=>exact plain (fun _ _ _ h=>by cases h) h
   | own e2 sz2 zs=>
     change newK top (.sub i e j) _ at h
     unfold newK at h
     rw [lenK_spec,snocK_spec] at h
     obtain ⟨ps,top',hk,⟨l,rfl,hl,hls⟩,hlen,hh⟩:=kE ys (top ++ [.sub i e j]) (j+1) _ h
     refine ⟨_,_,hk,⟨.sub i e j::l,by simp,by simpa [fV,Blk.isGen] using hl,fun b hb=>by rcases List.mem_cons.1 hb with rfl | hb;exact rfl;exact hls b hb⟩,by simp [hlen],fun m et sz xs x V flat vs hi hfree h1 h2 h3 h4 h5 h6=>?_⟩
     have hf:m.ρ 0 top.length=none:=hfree _ (aBo _) (by simp)
     have hI:=yW (e:=e) (c:=j) hi hf h1 h2 (h3 0 _ rfl) h4 h5 (h6 0 _ rfl)
     have hg:=qP m top.length (vs 0) hf
     have hit:i < top.length:=(aAe.1 h1).1
     have ho':∀ l i,¬ (l=0/\i=top.length)->(m.name top.length (vs 0)).ρ l i=m.ρ l i:=fun l i h=>if_neg h
     obtain ⟨m',e1,e2',e3,e4,e5⟩:=hh (m.name top.length (vs 0)) et sz xs x V flat (fun k=>vs (k+1)) hI (fun k hk1 hk2=>by
      rw [aAm] at hk1
      simp at hk1
      rw [ho' 0 k (by omega)];exact hfree k (by omega) hk2) (by rw [aAk hit];exact h1) h2 (fun k y' hk=>by have:=h3 (k+1) y' (by simpa using hk);rwa [show j+(k+1)=j+1+k by omega] at this) (by rw [ho' 0 i (by omega)];exact h4) h5
      (fun k y' hk=>by have:=h6 (k+1) y' (by simpa using hk);rwa [show j+(k+1)=j+1+k by omega] at this)
     refine ⟨m',e1,hg.trans e2',fun l a hn=>?_,e4,fun k p hp=>?_⟩
     . rw [e3 l a (fun h=>hn ⟨h.1,by have:=h.2.1;simp at this;omega,h.2.2⟩)]
       exact ho' l a (fun h=>hn ⟨h.1,by omega,by rw [h.2];simp⟩)
     . cases k with
       | zero=>
         simp at hp;subst hp
         obtain ⟨flat',_,_,ho,hr,_⟩:=RO.parts (hi.blk 0 i _ h1 V h4)
         have hfl:=ownsRow_inj h5 ho
         subst hfl
         obtain ⟨flat2,_,_,ho2,_⟩:=RO.parts (hr e x (j+0) _ (vs 0) h2 (h3 0 _ rfl) (h6 0 _ rfl))
         have hρ:m'.ρ 0 top.length=some (vs 0):=by
          rw [e3 0 top.length (fun h=>by have:=h.2.1;simp at this;omega)]
          exact if_pos ⟨rfl,rfl⟩
         generalize vs 0=v0 at ho2 hρ
         rcases ho2.2 with ⟨rfl,h0⟩ | ⟨g,cap,cur,rfl,_,_,hc,_⟩
         . rw [h0];exact .row _ _ _ 0 0 _ hρ (aBo _) (aBo _)
         . exact .row _ _ _ _ cap _ hρ (aBo _) hc
       | succ k=>exact e5 k p (by simpa using hp)
theorem nJ:∀ {ys:List DV},noOwns ys=true -> ∀ y ∈ ys,∀ e sz xs,y ≠ .own e sz xs
 | [],_,y,hy=>by cases hy
 | z::ys,h,y,hy=>by
   have h2:noOwn z=true/\noOwns ys=true:=by
    change (match noOwn z with | true=>noOwns ys | false=>false)=true at h
    cases hz:noOwn z with
    | true=>rw [hz] at h;exact ⟨rfl,h⟩
    | false=>rw [hz] at h;cases h
   rcases List.mem_cons.1 hy with rfl | hy
   . intro e sz xs e';subst e';cases h2.1
   . exact nJ h2.2 y hy
theorem kZ {tm:List PV} {xs:List Operand} {size:Nat}:∀ (parts:List (Nat × Operand)) (n0:Nat) (K:List (List DV)->Prop),elemsK tm size n0 parts K->(∀ x ∈ parts,x.2 ∈ xs) ->
 ∃ es,K es/\es.length=parts.length/\(∀ x ∈ es,x.length=size) /\ ∀ (m:M) (a:Act) (arr:Array Value),EvR m a tm xs->arr.size=(n0+parts.length)*size ->
   ∃ arr',Instr.fill (fun i=>some (i*size,size)) arr (parts.map fun x=>(x.1,a.eval x.2))=some arr'/\arr'.size=arr.size/\(∀ k,k < n0*size->arr'[k]? = arr[k]?) /\
     ∀ (i:Nat) x (j:Nat) y u,es[i]? = some x->x[j]? = some y->arr'[(n0+i)*size+j]? = some u->RD m.w m.ok y u
 | [],n0,K,h,_=>⟨[],h,rfl,by simp,fun m a arr _ hs=>⟨arr,rfl,rfl,fun k _=>rfl,fun i x j y u hx=>by simp at hx⟩⟩
 | (i,x)::rest,n0,K,h,hsub=>by
   simp only [elemsK,ifK] at h
   split at h
   case h_2=>exact h.elim
   rename_i hi
   obtain rfl:=aBj hi
   obtain ⟨p,hp,h⟩:=aT h
   obtain ⟨ys,h,hcell,hys⟩:=gI h
   rw [lenK_spec] at h
   split at h
   case h_2=>exact h.elim
   rename_i hb
   have hb:=aBj hb
   obtain ⟨ds,h,hdl,hds⟩:=dR h
   obtain ⟨es,hk,hl,hes,hh⟩:=kZ rest (i+1) _ h (fun x hx=>hsub x (aAv _ hx))
   refine ⟨ds::es,hk,by simp [hl],fun z hz=>by cases hz with | head=>omega | tail _ hz=>exact hes z hz,fun m a arr he hs=>?_⟩
   obtain ⟨hsz,hcs⟩:=hys m (a.eval x) (aO he (hsub (i,x) aAu) hp)
   have hle:i*size+size<=arr.size:=by
    rw [hs,<- Nat.succ_mul]
    exact Nat.mul_le_mul_right _ (by simp)
   obtain ⟨arr2,hf,hs2,hg⟩:=lX (dA:=fun i=>some (i*size,size)) (cells:=arr) (i:=i) (v:=a.eval x) (rest:=rest.map fun x=>(x.1,a.eval x.2)) rfl (by rw [hsz,hb]) hle
   obtain ⟨arr',h1,h2,h3,h4⟩:=hh m a arr2 he (by rw [hs2,hs];simp;congr 1;omega)
   refine ⟨arr',by rw [List.map_cons];exact hf.trans h1,by rw [h2,hs2],fun k hk=>?_,fun e z j y u hz hy hu=>?_⟩
   . rw [h3 k (by rw [Nat.succ_mul];omega),hg k,if_neg (by omega)]
   . cases e with
     | zero=>
       simp at hz
       subst hz
       have hjl:j < size:=by have:=(aAe.1 hy).1;omega
       rw [Nat.add_zero,h3 _ (by rw [Nat.succ_mul];omega),hg,if_pos (by omega),show i*size+j - i*size=j by omega] at hu
       refine (show u=((fun j=>((a.eval x).cells[j]?).getD undef) j) from by simp [hu]) ▸ hds m (fun j=>((a.eval x).cells[j]?).getD undef) (fun j q hq=>?_) j y hy
       have hjl2:j < ys.length:=(aAe.1 hq).1
       obtain ⟨c,hc⟩:∃ c,(a.eval x).cells[j]? = some c:=⟨_,Array.getElem?_eq_getElem (by omega)⟩
       rw [hc]
       exact hcs j q c hq hc
     | succ e=>
       refine h4 e z j y u (by simpa using hz) hy ?_
       rw [show i+1+e=i+(e+1) by omega]
       exact hu
theorem kF {tm:List PV} {xs:List Operand} {size:Nat}:∀ (parts:List (Nat × Operand)) (n0:Nat) (K:List (List PV)->Prop),elemsP tm size n0 parts K->(∀ x ∈ parts,x.2 ∈ xs) ->
 ∃ es,K es/\es.length=parts.length/\(∀ x ∈ es,x.length=size) /\ ∀ (m:M) (a:Act) (arr:Array Value),EvR m a tm xs->arr.size=(n0+parts.length)*size ->
   ∃ arr',Instr.fill (fun i=>some (i*size,size)) arr (parts.map fun x=>(x.1,a.eval x.2))=some arr'/\arr'.size=arr.size/\(∀ k,k < n0*size->arr'[k]? = arr[k]?) /\
     ∀ (i:Nat) x (j:Nat) y u,es[i]? = some x->x[j]? = some y->arr'[(n0+i)*size+j]? = some u->RP m y u
 | [],n0,K,h,_=>⟨[],h,rfl,by simp,fun m a arr _ hs=>⟨arr,rfl,rfl,fun k _=>rfl,fun i x j y u hx=>by simp at hx⟩⟩
 | (i,x)::rest,n0,K,h,hsub=>by
   simp only [elemsP,ifK] at h
   split at h
   case h_2=>exact h.elim
   rename_i hi
   obtain rfl:=aBj hi
   obtain ⟨p,hp,h⟩:=aT h
   obtain ⟨ys,h,hcell,hys⟩:=gI h
   rw [lenK_spec] at h
   split at h
   case h_2=>exact h.elim
   rename_i hb
   have hb:=aBj hb
   obtain ⟨es,hk,hl,hes,hh⟩:=kF rest (i+1) _ h (fun x hx=>hsub x (aAv _ hx))
   refine ⟨ys::es,hk,by simp [hl],fun z hz=>by cases hz with | head=>exact hb | tail _ hz=>exact hes z hz,fun m a arr he hs=>?_⟩
   obtain ⟨hsz,hcs⟩:=hys m (a.eval x) (aO he (hsub (i,x) aAu) hp)
   have hle:i*size+size<=arr.size:=by
    rw [hs,<- Nat.succ_mul]
    exact Nat.mul_le_mul_right _ (by simp)
   obtain ⟨arr2,hf,hs2,hg⟩:=lX (dA:=fun i=>some (i*size,size)) (cells:=arr) (i:=i) (v:=a.eval x) (rest:=rest.map fun x=>(x.1,a.eval x.2)) rfl (by rw [hsz,hb]) hle
   obtain ⟨arr',h1,h2,h3,h4⟩:=hh m a arr2 he (by rw [hs2,hs];simp;congr 1;omega)
   refine ⟨arr',by rw [List.map_cons];exact hf.trans h1,by rw [h2,hs2],fun k hk=>?_,fun e z j y u hz hy hu=>?_⟩
   . rw [h3 k (by rw [Nat.succ_mul];omega),hg k,if_neg (by omega)]
   . cases e with
     | zero=>
       simp at hz
       subst hz
       have hjl:j < size:=by have:=(aAe.1 hy).1;omega
       rw [Nat.add_zero,h3 _ (by rw [Nat.succ_mul];omega),hg,if_pos (by omega),show i*size+j - i*size=j by omega] at hu
       exact hcs j y u hy hu
     | succ e=>
       refine h4 e z j y u (by simpa using hz) hy ?_
       rw [show i+1+e=i+(e+1) by omega]
       exact hu
theorem cH {C:Cx} {o:Oper} {a:Act} {w:World} {s:Sem Value} {v:Value} {w':World} (h:execOp a.eval o=(do pure (.value (<- s)))) (hr:s.run C.P w = .ok v w'):(execOp a.eval o).run C.P w = .ok (.value v) w':=by
 rw [h];simp [hr]
theorem rP {C:Cx} (hC:C.Ok) {H:List (List Blk)} {o:Oper} {t n:Nat} {parts:Array (Nat × Operand)} (ho:o.op = .buildSlice t n parts) {tm:List PV} {top:List Blk} {K:PV->Prop} (h:litsK C tm t n parts.toList K) :
 ∃ pv,K pv/\0 < n /\ ∀ (m:M) (a:Act),Inv m top H->EvR m a tm o.op.operands.toList -> ∃ w',(execOp a.eval o).run C.P m.w = .ok (.value (.slice (some ⟨m.w.heap.size,0,none⟩) n n)) w' /\
   Grow m ⟨w',m.ρ,m.U⟩/\m.w.heap.size < w'.heap.size/\Inv ⟨w',m.ρ,m.U⟩ top H/\RP ⟨w',m.ρ,m.U⟩ pv (.slice (some ⟨m.w.heap.size,0,none⟩) n n):=by
 unfold litsK at h
 obtain ⟨r,hr,ht_,h_⟩:=lookK_spec h
 clear h
 subst ht_
 have h:=h_
 clear h_
 split at h
 case h_2=>exact h.elim
 rename_i e hty0
 obtain ⟨r',hr',ht_,h_⟩:=lookK_spec h
 clear h
 subst ht_
 have h:=h_
 clear h_
 simp only [ifK] at h
 split at h
 case h_2=>exact h.elim
 rename_i hpos
 have hpos:0 < r'.size:=by simpa [Nat.blt_eq] using hpos
 split at h
 case h_2=>exact h.elim
 rename_i hmax
 have hmax:n*r'.size<=16777216:=Nat.le_of_ble_eq_true hmax
 obtain ⟨es,h,hel,hes,hfill⟩:=kF (xs:=o.op.operands.toList) parts.toList 0 _ h (fun x hx=>by rw [ho];simp only [Op.operands,List.toList_toArray];exact List.mem_map_of_mem hx)
 rw [lenK_spec] at h
 split at h
 case h_2=>exact h.elim
 rename_i hn
 have hn:=aBj hn
 split at h
 case h_2=>exact h.elim
 rename_i hn0
 have hn0:0 < n:=by simpa [Nat.blt_eq] using hn0
 obtain ⟨i,z,d,hi,hs,hb,hz,hzz,hd,hty⟩:=aP hC hr
 obtain ⟨i',z',d',hi',hs',hb',hz',hzz',hd',hty'⟩:=aP hC hr'
 rw [hty0] at hty
 obtain ⟨e,rfl⟩:∃ e,d = .slice e:=by cases d <;> simp [tyOf] at hty <;> exact ⟨_,rfl⟩
 simp only [tyOf,Ty.slice.injEq] at hty
 subst hty
 refine ⟨_,h,hn0,fun m a hinv he=>?_⟩
 obtain ⟨zc,hzc⟩:∃ zc:Array Value,zc=if n*r'.size=0 then #[] else z'.cells:=⟨_,rfl⟩
 obtain ⟨arr,h1,h2,_,h4⟩:=hfill m a ((Array.range (n*r'.size)).map (zc[· % zc.size]!)) he (by simp [<- hel,hn])
 have hsz:arr.size=n*r'.size:=by rw [h2];simp
 have hrun:(execOp a.eval o).run C.P m.w = .ok (.value (.slice (some ⟨m.w.heap.size,0,none⟩) n n)) (m.w.alloc (.cells arr r'.t (0,0))):=by
  refine cH (s:=Instr.buildSlice r.t n (parts.map fun x=>(x.1,a.eval x.2))) (by simp [execOp,ho]) ?_
  simp only [Instr.buildSlice,Sem.run_bind,aU hd,Result.andThen_ok,bS hi',hs']
  rw [if_neg (by omega)]
  by_cases h0:n*r'.size=0
  . rw [if_pos h0] at hzc
    rw [if_pos h0,<- hzc]
    simp only [Sem.run_bind,Sem.run_pure,Result.andThen_ok,Array.toList_map]
    rw [h1]
    simp [newRow]
  . rw [if_neg h0] at hzc
    rw [if_neg h0]
    simp only [Sem.run_bind,gF hi' hz',Sem.run_pure,Result.andThen_ok,Array.toList_map]
    rw [<- hzc,h1]
    simp [newRow]
 have hsz':(m.w.alloc (.cells arr r'.t (0,0))).heap.size=m.w.heap.size+1:=by simp
 have hg:Grow m ⟨m.w.alloc (.cells arr r'.t (0,0)),m.ρ,m.U⟩:=⟨rfl,rfl,rfl,by rw [hsz'];omega,fun k hk=>cF _ _ _ hk,fun _ _ _ h=>h,fun _ _=>Iff.rfl⟩
 refine ⟨_,hrun,hg,by rw [hsz'];omega,hinv.of_grow hg rfl rfl,?_⟩
 have cell:∀ (i:Nat) x (j:Nat) y,es[i]? = some x->x[j]? = some y -> ∃ u,arr[i*r'.size+j]? = some u:=fun i x j y hx hy=>by
  have h1:i < n:=by rw [<- hn];exact (aAe.1 hx).1
  have h2:j < r'.size:=by rw [<- hes x (aAg hx)];exact (aAe.1 hy).1
  have h3:i*r'.size+r'.size<=n*r'.size:=by rw [<- Nat.succ_mul];exact Nat.mul_le_mul_right _ h1
  exact ⟨_,Array.getElem?_eq_getElem (by omega)⟩
 have hnn:n=es.length:=hn.symm
 have hle:es.length<=es.length*r'.size:=Nat.le_mul_of_pos_right _ hpos
 have hmax':es.length*r'.size<=16777216:=by rw [hn];exact hmax
 rw [hnn]
 refine .lits r'.size es ⟨m.w.heap.size,0,none⟩ (fun k=>arr.getD k undef) (by omega) (by omega) hes (fun i x j y hx hy=>?_) (fun i x j y hx hy=>?_)
 . obtain ⟨u,hu⟩:=cell i x j y hx hy
   refine ⟨⟨?_,fun hU=>?_⟩,?_⟩
   . show m.w.heap.size < (m.w.alloc (.cells arr r'.t (0,0))).heap.size;omega
   . have:=hinv.lt _ hU;simp at this
   . rw [bT,Nat.zero_add]
     have hh:=gE m.w (.cells arr r'.t (0,0))
     show (m.w.alloc (.cells arr r'.t (0,0))).cell? ⟨m.w.heap.size,i*r'.size+j,none⟩=_
     simp only [World.cell?,hh,hu]
     simp [hu]
 . obtain ⟨u,hu⟩:=cell i x j y hx hy
   have hu':arr.getD (i*r'.size+j) undef=u:=by simp [Array.getD,(aBw.1 hu).1];exact (aBw.1 hu).2
   show RP _ y (arr.getD (i*r'.size+j) undef)
   rw [hu']
   exact (h4 i x j y u hx hy (by rw [Nat.zero_add];exact hu)).keep hg.keep
theorem wY {C:Cx} (hC:C.Ok) {H:List (List Blk)} {o:Oper} {s d:Nat} {x:Operand} (ho:o.op = .convert s d x) {tm:List PV} {top:List Blk} {p:PV} (hp:ev? tm x=some p) {K:PV->List Blk->Prop}
 (h:convK C s d p fun q=>K q top):∃ pv top',K pv top'/\Ext top top'/\bQ C H o tm top pv top':=by
 have mx:x ∈ o.op.operands.toList:=by simp [ho,Op.operands]
 obtain ⟨rs,hrs,ht_,h_⟩:=lookK_spec h
 clear h
 subst ht_
 obtain ⟨rd,hrd,ht_,h⟩:=lookK_spec h_
 clear h_
 subst ht_
 obtain ⟨i,z,ds,hi,hs,hb,hz,hzz,hd,hty⟩:=aP hC hrs
 obtain ⟨i',z',dd,hi',hs',hb',hz',hzz',hd',hty'⟩:=aP hC hrd
 have ex:∀ (a:Act),execOp a.eval o=(do pure (.value (<- convert rs.t rd.t (a.eval x)))):=fun a=>by simp [execOp,ho]
 split at h
 . rename_i k n
   cases hT:rd.ty <;> rw [hT] at h <;> try exact h.elim
   rename_i k'
   cases hS:rs.ty <;> rw [hS] at h <;> try exact h.elim
   rename_i k0
   rw [hT] at hty'
   rw [hS] at hty
   obtain rfl:dd = .int k':=by cases dd <;> simp [tyOf] at hty' <;> rw [hty']
   obtain rfl:ds = .int k0:=by cases ds <;> simp [tyOf] at hty <;> rw [hty]
   refine ⟨_,top,h _ rfl,Ext.refl _,bE fun m a hinv he=>?_⟩
   have:=aO he mx hp
   generalize hv:a.eval x=v at this
   cases this with
   | d _ _ hv2=>
     cases hv2
     refine ⟨_,cH (ex a) (by rw [hv];simp only [convert,Sem.run_bind,aU hd,aU hd',Result.andThen_ok];rfl),cW _ _⟩
 . rename_i str
   cases hS:rs.ty <;> rw [hS] at h <;> try exact h.elim
   cases hT:rd.ty <;> rw [hT] at h <;> try exact h.elim
   rename_i e
   obtain ⟨re,hre,ht_,h_⟩:=lookK_spec h
   clear h
   subst ht_
   obtain ⟨i2,z2,de,hi2,hs2,hb2,hz2,hzz2,hde,htye⟩:=aP hC hre
   split at h_
   case h_2=>exact h_.elim
   rename_i hE
   obtain ⟨hsz1,hsize,hk⟩:=h_
   rw [hS] at hty
   rw [hT] at hty'
   rw [hE] at htye
   obtain rfl:ds = .string:=by cases ds <;> simp [tyOf] at hty <;> rfl
   obtain rfl:dd = .slice re.t:=by cases dd <;> simp [tyOf] at hty' <;> rw [hty']
   obtain rfl:de = .int .u8:=by cases de <;> simp [tyOf] at htye <;> rw [htye]
   refine ⟨_,top,hk,Ext.refl _,fun m a hinv he hfree next Q hnext=>?_⟩
   have:=aO he mx hp
   generalize hv:a.eval x=v at this
   cases this with
   | d _ _ hv2=>
     cases hv2
     have hrun:=Lib.run_convert_string_bytes (P:=C.P) m.w rs.t rd.t re.t str hd hd' hde
     unfold Oper.wp
     rw [cH (ex a) (by rw [hv];exact hrun)]
     have hsz:=Lib.bytesWorld_size m.w re.t str
     have hg:Grow m ⟨Lib.bytesWorld m.w re.t str,m.ρ,m.U⟩:=
      ⟨rfl,rfl,rfl,by show _<=(Lib.bytesWorld m.w re.t str).heap.size;omega,fun k hk=>Lib.bytesWorld_at_old _ _ _ _ hk,fun _ _ _ h=>h,fun _ _=>Iff.rfl⟩
     refine hnext _ _ hg (fun _ _ _=>rfl) (fun j b u k h1 h2=>by have:=(aAe.1 h2).1;omega) (hinv.of_grow hg rfl rfl) ?_
     have hdl:str.data.toList.length=str.size:=by rw [aBy];rfl
     refine .d _ _ (.sl 1 _ _ _ _ ⟨m.w.heap.size,0,none⟩ (fun k=>.int .u8 (str.data.toList.getD k 0).toNat) (by simp [hdl]) (grownCap_ge _ _ _ _) (by omega) (fun _=>rfl) (fun y hy=>by simp at hy;obtain ⟨b,_,rfl⟩:=hy;rfl) (fun k y j w hy hw=>?_) (fun k y j w hy hw=>?_))
     . rw [aAi] at hy
       obtain ⟨b,hb,rfl⟩:=aBq.1 hy
       have hkl:k < str.size:=by rw [<- hdl];exact (aAe.1 hb).1
       cases j with
       | succ j=>simp at hw
       | zero=>
         refine ⟨⟨?_,fun hu=>?_⟩,?_⟩
         . show m.w.heap.size < (Lib.bytesWorld m.w re.t str).heap.size;omega
         . have:=hinv.lt _ hu;simp at this
         . rw [bT,Nat.zero_add,Nat.mul_one,Nat.add_zero];exact Lib.bytesWorld_cell m.w re.t str k hkl
     . rw [aAi] at hy
       obtain ⟨b,hb,rfl⟩:=aBq.1 hy
       cases j with
       | succ j=>simp at hw
       | zero=>
         simp at hw
         subst hw
         simp only [Nat.mul_one,Nat.add_zero,aA2,hb,aB0]
         exact .int _ _
 . rename_i xs
   cases hS:rs.ty <;> rw [hS] at h <;> try exact h.elim
   rename_i e
   cases hT:rd.ty <;> rw [hT] at h <;> try exact h.elim
   obtain ⟨re,hre,ht_,h_⟩:=lookK_spec h
   clear h
   subst ht_
   obtain ⟨i2,z2,de,hi2,hs2,hb2,hz2,hzz2,hde,htye⟩:=aP hC hre
   split at h_
   case h_2=>exact h_.elim
   rename_i hE
   obtain ⟨bs,rfl,hk⟩:=h_
   rw [hS] at hty
   rw [hT] at hty'
   rw [hE] at htye
   obtain rfl:ds = .slice re.t:=by cases ds <;> simp [tyOf] at hty <;> rw [hty]
   obtain rfl:dd = .string:=by cases dd <;> simp [tyOf] at hty' <;> rfl
   obtain rfl:de = .int .u8:=by cases de <;> simp [tyOf] at htye <;> rw [htye]
   refine ⟨_,top,hk,Ext.refl _,bE fun m a hinv he=>?_⟩
   have:=aO he mx hp
   generalize hv:a.eval x=v at this
   cases this with
   | d _ _ hv2=>
     cases hv2 with
     | sl sz _ A n c ad u hn hc hm hA hsz hcell hr=>
       refine ⟨.string ⟨bs.toArray⟩,cH (ex a) ?_,.d _ _ (.str _)⟩
       rw [hv]
       simp only [aAh] at hn
       rcases Nat.eq_zero_or_pos n with h0 | h0
       . subst h0
         obtain rfl:bs = []:=List.eq_nil_of_length_eq_zero hn
         cases A with
         | none=>rw [run_convert_bytes_nil m.w rs.t re.t hd hde 0 c rd.t hd'];rfl
         | some a0=>
           simp only [convert,Sem.run_bind,aU hd,aU hd',aU hde,Result.andThen_ok,Conv.bytesToString,loadCells,loadCellsFrom,Sem.run_pure]
           rfl
       . have hAs:=hA h0
         subst hAs
         have hc1:∀ k,k < n->m.w.cell? (ad.add k)=some (.int .u8 ((bs.map fun b=>(b.toNat:Int)).getD k 0)):=fun k hk=>by
          have hb:bs[k]? = some (bs[k]'(by omega)):=aAf (by omega)
          have h1:(bs.map fun b=>[DV.int .u8 (b.toNat:Int)])[k]? = some [DV.int .u8 ((bs[k]'(by omega)).toNat:Int)]:=by rw [aAi,hb];rfl
          have hs1:sz=1:=(hsz _ (aAg h1)).symm
          subst hs1
          have h2:=(hcell k _ 0 _ h1 rfl).2
          have h3:=hr k _ 0 _ h1 rfl
          rw [Nat.mul_one,Nat.add_zero] at h2 h3
          rw [h2]
          generalize u k=uu at h3
          cases h3
          simp [aA2,hb]
         have hspot:ad.spot=none:=by
          have:=hc1 0 h0
          rw [show ad.add 0=ad from rfl] at this
          unfold World.cell? at this
          cases hsp:ad.spot with
          | none=>rfl
          | some q=>rw [hsp] at this;split at this <;> simp at this
         obtain ⟨b0,off,sp⟩:=ad
         simp only at hspot
         subst hspot
         rw [run_convert_bytes_arg m.w rs.t re.t hd hde b0 off n c (bs.map fun b=>(b.toNat:Int)) (by simp [hn]) (fun k hk=>by have:=hc1 k hk;rwa [bT] at this) rd.t hd']
         simp [strOfNums,Function.comp_def]
 . exact h.elim
theorem yX {C:Cx} (hC:C.Ok) {H:List (List Blk)} {o:Oper} {t:Nat} {x:Operand} (ho:o.op = .load t x) {tm:List PV} {top:List Blk} {p:PV} (hp:ev? tm x=some p) {K:PV->List Blk->Prop} (h:ldK C H top t p K) :
 ∃ pv top',K pv top'/\Ext top top'/\bQ C H o tm top pv top':=by
 have plain:loadK C H top t p (fun q=>K q top) -> ∃ pv top',K pv top'/\Ext top top'/\bQ C H o tm top pv top':=fun h=>by
  obtain ⟨q,hq,hh⟩:=oQ hC h
  refine ⟨q,top,hq,Ext.refl _,bE fun m a hi he=>?_⟩
  obtain ⟨u,hu,hr⟩:=hh m _ hi (aO he (by simp [ho,Op.operands]) hp)
  exact ⟨u,cH (by simp [execOp,ho]) hu,hr⟩
 unfold ldK at h
 split at h
 case h_2=>exact plain h
 rename_i i sz e j
 obtain ⟨b,hb,hB⟩:=getK_spec.1 h
 clear h
 split at hB
 . rename_i et sz' xs
   simp only [ifK] at hB
   split at hB
   case h_2=>exact hB.elim
   rename_i hsz
   obtain rfl:=aBj hsz
   obtain ⟨x0,hx0,hC1⟩:=hB
   obtain ⟨r,hr,ht_,h_⟩:=lookK_spec hC1
   clear hC1
   subst ht_
   obtain ⟨hlen,h⟩:=subK_spec.1 h_
   obtain ⟨ps,top',h,⟨ll,rfl,hng,hsubs⟩,hpl,hh⟩:=kE (H:=H) _ _ _ _ h
   obtain ⟨q,hq,hone,hrel⟩:=eT h
   refine ⟨q,_,hq,⟨ll,rfl,hng⟩,fun m a hi he hfree next Q hn=>?_⟩
   have hv:=aO he (by simp [ho,Op.operands]) hp
   generalize hve:a.eval x=v at hv
   cases hv with
   | rptr _ _ _ _ _ g N c hρ=>
     obtain ⟨flat,h0,hs,hown,_,_,_⟩:=RO.parts (hi.blk 0 i _ hb _ hρ)
     have hyl:((x0.drop j).take r.size).length=r.size:=by rw [aAl,aAq];omega
     have hxl:x0.length=sz':=hs x0 (aAg hx0)
     have hel:e < xs.length:=(aAe.1 hx0).1
     have hle:e*sz'+sz'<=xs.length*sz':=by rw [<- Nat.succ_mul];exact Nat.mul_le_mul_right _ hel
     have hfl:flat.length=xs.length*sz':=hown.1
     have fget:∀ k,k < r.size->flat[e*sz'+(j+k)]? = some (flat.getD (e*sz'+(j+k)) undef):=fun k hk=>by rw [aA2,aAf (by omega)];rfl
     have ylt:∀ (k:Nat) y,((x0.drop j).take r.size)[k]? = some y->k < r.size/\x0[j+k]? = some y:=fun k y hk=>by
      have h1:=(aAe.1 hk).1
      rw [hyl] at h1
      rw [List.getElem?_take_of_lt h1,aA1] at hk
      exact ⟨h1,hk⟩
     obtain ⟨m',e1,hg,e3,hI,e5⟩:=hh m et sz' xs x0 _ flat (fun k=>flat.getD (e*sz'+(j+k)) undef) hi (fun k hk1 hk2=>hfree k hk1 hk2) hb hx0 (fun k y hk=>(ylt k y hk).2) hρ hown (fun k y hk=>fget k (ylt k y hk).1)
     have hL:((List.range r.size).map fun k=>flat.getD (e*sz'+(j+k)) undef).length=r.size:=by simp
     have hone':r.ty.isAgg=false->r.size=1:=fun ha=>by have:=hone ha;rw [hpl,hyl] at this;exact this
     have hrun:=fW hC hr (w:=m.w) (ad:=⟨g,e*sz'+j,none⟩) (vs:=(List.range r.size).map fun k=>flat.getD (e*sz'+(j+k)) undef) (fun k u hk=>by
      rcases aBl k r.size with hlt | hge
      . simp [hlt] at hk
        have:=hown.cells (g:=g) rfl _ _ (fget k hlt)
        rw [bT] at this ⊢
        rw [Nat.zero_add] at this
        rw [show e*sz'+j+k=e*sz'+(j+k) by omega,this]
        simpa using hk
      . rw [List.getElem?_eq_none (by simp;omega)] at hk;cases hk) hL hone'
     unfold Oper.wp
     rw [cH (by simp only [execOp,ho,hve]) hrun,<- e1]
     refine hn _ m' hg e3 (fun j' b' u k h1 h2 _ hk=>?_) hI (hrel m' _ (by rw [hL,hpl,hyl]) (fun k p' u hp' hu=>?_))
     . rw [aAj h1] at h2
       exact absurd hk (Blk.isSub_has (hsubs b' (aAg h2)))
     . rcases aBl k r.size with hlt | hge
       . simp [hlt] at hu
         have:=e5 k p' hp'
         rw [aA2] at this
         rwa [hu] at this
       . rw [List.getElem?_eq_none (by simp;omega)] at hu;cases hu
 . rename_i p' e' c'
   obtain ⟨e2,sz2,ys2,hD,et,sz0,xs0,x00,w1,w2,w3⟩:=nF hB
   clear hB
   simp only [ifK] at hD
   split at hD
   case h_2=>exact hD.elim
   rename_i hsz
   obtain rfl:=aBj hsz
   obtain ⟨x0,hx0,hC1⟩:=hD
   obtain ⟨r,hr,ht_,h_⟩:=lookK_spec hC1
   clear hC1
   subst ht_
   obtain ⟨hlen,h⟩:=subK_spec.1 h_
   split at h
   case h_2=>exact h.elim
   rename_i hno
   obtain ⟨q,hq,hone,hrel⟩:=eT (lV h)
   refine ⟨q,top,hq,Ext.refl _,bE fun m a hi he=>?_⟩
   have hv:=aO he (by simp [ho,Op.operands]) hp
   generalize hve:a.eval x=v at hv
   cases hv with
   | rptr _ _ _ _ _ g N c hρ=>
     obtain ⟨_,_,_,_,_,_,hro⟩:=hi.at hb w1 w2 w3 hρ
     obtain ⟨flat,h0,hs,hown,hcell,_,_⟩:=hro.parts
     have hyl:((x0.drop j).take r.size).length=r.size:=by rw [aAl,aAq];omega
     have hxl:x0.length=sz2:=hs x0 (aAg hx0)
     have hel:e < ys2.length:=(aAe.1 hx0).1
     have hle:e*sz2+sz2<=ys2.length*sz2:=by rw [<- Nat.succ_mul];exact Nat.mul_le_mul_right _ hel
     have hfl:flat.length=ys2.length*sz2:=hown.1
     have hL:((flat.drop (e*sz2+j)).take r.size).length=r.size:=by rw [aAl,aAq];omega
     have hone':r.ty.isAgg=false->r.size=1:=fun ha=>by
      have:=hone ha
      rw [aAh,hyl] at this;exact this
     refine ⟨_,cH (by simp only [execOp,ho,hve]) (fW hC hr (w:=m.w) (ad:=⟨g,e*sz2+j,none⟩) (vs:=(flat.drop (e*sz2+j)).take r.size) (fun k u hk=>?_) hL hone'),hrel m _ (by rw [hL,aAh,hyl]) (fun k p'' u hp' hu=>?_)⟩
     . rw [bT]
       have hk2:flat[e*sz2+j+k]? = some u:=by
        rcases aBl k r.size with hlt | hge
        . rw [List.getElem?_take_of_lt hlt,aA1] at hk;exact hk
        . rw [List.getElem?_eq_none (by omega)] at hk;cases hk
       have:=hown.cells (g:=g) rfl _ u hk2
       rwa [bT,Nat.zero_add] at this
     . rcases aBl k r.size with hlt | hge
       . rw [aAi] at hp'
         obtain ⟨y,hy,rfl⟩:=aBq.1 hp'
         have hy':=hy
         rw [List.getElem?_take_of_lt hlt,aA1] at hy
         rw [List.getElem?_take_of_lt hlt,aA1] at hu
         have:=hcell e x0 (j+k) y u hx0 hy (by rw [<- Nat.add_assoc];exact hu)
         cases this with
         | plain _ _ h=>exact .d _ _ h
         | own e3 sz3 zs=>exact absurd rfl (nJ hno _ (aAg hy') _ _ _)
       . rw [List.getElem?_eq_none (by omega)] at hu;cases hu
 . exact plain hB
theorem wZ {C:Cx} (hC:C.Ok) {H:List (List Blk)} {o:Oper} {tm:List PV} {top:List Blk} {K:PV->List Blk->Prop} (hcall:∀ c,o.op ≠ .call c) (h:opK C H o.op tm top K) :
 ∃ pv top',K pv top'/\Ext top top'/\bQ C H o tm top pv top':=by
 cases ho:o.op with
 | move x=>
   rw [ho] at h
   obtain ⟨p,hp,h⟩:=aT h
   exact ⟨p,top,h,Ext.refl _,bE fun m a hi he=>⟨a.eval x,by simp [execOp,ho],aO he (by simp [ho,Op.operands]) hp⟩⟩
 | assign x=>
   rw [ho] at h
   obtain ⟨p,hp,h⟩:=aT h
   exact ⟨p,top,h,Ext.refl _,bE fun m a hi he=>⟨a.eval x,by simp [execOp,ho],aO he (by simp [ho,Op.operands]) hp⟩⟩
 | pick c x y=>
   rw [ho] at h
   obtain ⟨p,hp,h⟩:=aT h
   have mc:c ∈ o.op.operands.toList:=by simp [ho,Op.operands]
   have mx:x ∈ o.op.operands.toList:=by simp [ho,Op.operands]
   have my:y ∈ o.op.operands.toList:=by simp [ho,Op.operands]
   have ex:∀ (a:Act) (w:World) (b:Bool),a.eval c = .bool b->(execOp a.eval o).run C.P w = .ok (.value (if b then a.eval x else a.eval y)) w:=fun a w b hb=>by
    simp [execOp,ho,asBool,hb]
   cases p with
   | kb b=>
     cases b with
     | true=>
       obtain ⟨q,hq,h⟩:=aT h
       refine ⟨q,top,h,Ext.refl _,bE fun m a hi he=>?_⟩
       have:=aO he mc hp
       generalize hv:a.eval c=v at this
       cases this
       exact ⟨_,ex a _ true hv,aO he mx hq⟩
     | false=>
       obtain ⟨q,hq,h⟩:=aT h
       refine ⟨q,top,h,Ext.refl _,bE fun m a hi he=>?_⟩
       have:=aO he mc hp
       generalize hv:a.eval c=v at this
       cases this
       exact ⟨_,ex a _ false hv,aO he my hq⟩
   | d z=>
     obtain ⟨q,hq,h⟩:=aT h
     obtain ⟨q',hq',h⟩:=aT h
     cases z with
     | bool b=>
       have fin:∀ (bx by_:Bool),(∀ m v,RP m q v->v = .bool bx)->(∀ m v,RP m q' v->v = .bool by_)->K (.d (.bool (bif b then bx else by_))) top ->
        ∃ pv top',K pv top'/\Ext top top'/\bQ C H o tm top pv top':=by
        intro bx by_ hbx hby hk
        refine ⟨_,top,hk,Ext.refl _,bE fun m a hi he=>?_⟩
        have:=aO he mc hp
        generalize hv:a.eval c=v at this
        cases this with
        | d _ _ hb=>
          cases hb
          refine ⟨_,ex a _ b hv,?_⟩
          rw [hbx m _ (aO he mx hq),hby m _ (aO he my hq')]
          cases b <;> exact dH _
       have d1:∀ (b:Bool) m v,RP m (.d (.bool b)) v->v = .bool b:=fun b m v hv=>by cases hv with | d _ _ hv=>cases hv;rfl
       have d2:∀ (b:Bool) m v,RP m (.kb b) v->v = .bool b:=fun b m v hv=>by cases hv;rfl
       simp only [pickK] at h
       split at h
       . exact fin _ _ (d1 _) (d1 _) h
       . exact fin _ _ (d2 _) (d1 _) h
       . exact fin _ _ (d1 _) (d2 _) h
       . exact fin _ _ (d2 _) (d2 _) h
       . exact h.elim
     | _=>exact h.elim
   | _=>
     obtain ⟨q,hq,h⟩:=aT h
     obtain ⟨q',hq',h⟩:=aT h
     exact h.elim
 | alloc e=>
   rw [ho] at h
   obtain ⟨r,hr,ht_,h_⟩:=lookK_spec h
   clear h
   subst ht_
   have h:=h_
   clear h_
   unfold newK at h
   rw [lenK_spec,snocK_spec] at h
   obtain ⟨i,z,d,hi,hs,hb,hz,hzz,hd,hty⟩:=aP hC hr
   refine ⟨_,_,h,Ext.app _ _,nT rfl fun m a _ he=>⟨.pointer (some ⟨m.w.heap.size,0,none⟩),z.cells,r.t,.pointer (some ⟨m.w.heap.size,0,none⟩),?_,rfl,fun hf=>⟨?_,.ptr _ _ _ _ (by simp [M.new])⟩⟩⟩
   . simp [execOp,ho,Instr.alloc,gF hi hz,newVar,newRow]
   . intro v hv
     simp only [M.new,and_self,if_true,Option.some.injEq] at hv
     subst hv
     refine ⟨m.w.heap.size,z.cells,r.t,rfl,gE _ _,by rw [<- hzz];simp,fun j p u hp hu=>?_⟩
     rw [<- hzz,aAi] at hp
     obtain ⟨u',hu',rfl⟩:=aBq.1 hp
     rw [aBv,hu] at hu'
     cases hu'
     exact pU _ _
 | box e x=>
   rw [ho] at h
   obtain ⟨p,hp,h⟩:=aT h
   obtain ⟨cs,h,hcell,hcs⟩:=gI h
   unfold newK at h
   rw [lenK_spec,snocK_spec] at h
   have mx:x ∈ o.op.operands.toList:=by simp [ho,Op.operands]
   refine ⟨_,_,h,Ext.app _ _,nT rfl fun m a _ he=>⟨.pointer (some ⟨m.w.heap.size,0,none⟩),(a.eval x).cells,e,.pointer (some ⟨m.w.heap.size,0,none⟩),?_,rfl,fun hf=>⟨?_,.ptr _ _ _ _ (by simp [M.new])⟩⟩⟩
   . simp [execOp,ho,Instr.box,newVar,newRow]
   . obtain ⟨hsz,hrel⟩:=hcs m _ (aO he mx hp)
     intro v hv
     simp only [M.new,and_self,if_true,Option.some.injEq] at hv
     subst hv
     exact ⟨m.w.heap.size,_,e,rfl,gE _ _,hsz,fun j p u hp hu=>(hrel j p u hp hu).keep (gD _ _ _ _ hf).keep⟩
 | build t parts=>
   rw [ho] at h
   obtain ⟨r,hr,ht_,h_⟩:=lookK_spec h
   clear h
   subst ht_
   have h:=h_
   clear h_
   simp only [ifK] at h
   split at h
   case h_2=>exact h.elim
   rename_i hagg
   obtain ⟨pl,hpl,hrun⟩:=wX hC hr hagg
   obtain ⟨cs',hk,hh⟩:=nI (xs:=o.op.operands.toList) hpl parts.toList r.zero _ h (fun x hx=>by rw [ho];simp only [Op.operands,List.toList_toArray];exact List.mem_map_of_mem hx)
   refine ⟨_,top,hk,Ext.refl _,bE fun m a hi he=>?_⟩
   obtain ⟨zero,hz,hfill⟩:=hrun m.w (parts.map fun x=>(x.1,a.eval x.2))
   obtain ⟨arr,h1,h2,h3⟩:=hh m a zero he (by rw [<- hz];simp) (fun j p u hp hu=>by
    rw [<- hz,aAi] at hp
    obtain ⟨u',hu',rfl⟩:=aBq.1 hp
    rw [aBv,hu] at hu'
    cases hu'
    exact pU _ _)
   refine ⟨.agg arr,cH (s:=Instr.build r.t (parts.map fun x=>(x.1,a.eval x.2))) (by simp [execOp,ho]) (hfill arr (by rw [Array.toList_map];exact h1)),.agg _ _ h2.symm h3⟩
 | buildSlice t n parts=>
   rw [ho] at h
   have h:(match anyRow tm parts.toList with | true=>litsK C tm t n parts.toList (fun q=>K q top) | false=>plainK C tm top t n parts.toList K):=h
   split at h
   . obtain ⟨pv,hk,_,hh⟩:=rP hC (H:=H) (top:=top) ho h
     refine ⟨pv,top,hk,Ext.refl _,fun m a hinv he hfree next Q hnext=>?_⟩
     obtain ⟨w',hrun,hg,_,hI,hR⟩:=hh m a hinv he
     unfold Oper.wp
     rw [hrun]
     exact hnext _ _ hg (fun _ _ _=>rfl) (fun j b u k h1 h2=>by have:=(aAe.1 h2).1;omega) hI hR
   unfold plainK at h
   obtain ⟨r,hr,ht_,h_⟩:=lookK_spec h
   clear h
   subst ht_
   have h:=h_
   clear h_
   split at h
   case h_2=>exact h.elim
   rename_i e hty0
   obtain ⟨r',hr',ht_,h_⟩:=lookK_spec h
   clear h
   subst ht_
   have h:=h_
   clear h_
   simp only [ifK] at h
   split at h
   case h_2=>exact h.elim
   rename_i hpos
   have hpos:0 < r'.size:=by simpa [Nat.blt_eq] using hpos
   split at h
   case h_2=>exact h.elim
   rename_i hmax
   have hmax:n*r'.size<=16777216:=Nat.le_of_ble_eq_true hmax
   obtain ⟨es,h,hel,hes,hfill⟩:=kZ (xs:=o.op.operands.toList) parts.toList 0 _ h (fun x hx=>by rw [ho];simp only [Op.operands,List.toList_toArray];exact List.mem_map_of_mem hx)
   rw [lenK_spec] at h
   split at h
   case h_2=>exact h.elim
   rename_i hn
   have hn:=aBj hn
   obtain ⟨i,z,d,hi,hs,hb,hz,hzz,hd,hty⟩:=aP hC hr
   obtain ⟨i',z',d',hi',hs',hb',hz',hzz',hd',hty'⟩:=aP hC hr'
   rw [hty0] at hty
   obtain ⟨e,rfl⟩:∃ e,d = .slice e:=by cases d <;> simp [tyOf] at hty <;> exact ⟨_,rfl⟩
   simp only [tyOf,Ty.slice.injEq] at hty
   subst hty
   have hrun0:∀ (m:M) (a:Act),EvR m a tm o.op.operands.toList -> ∃ arr:Array Value,arr.size=n*r'.size/\(execOp a.eval o).run C.P m.w = .ok (.value (.slice (some ⟨m.w.heap.size,0,none⟩) n n)) (m.w.alloc (.cells arr r'.t (0,0))) /\
    ∀ (i:Nat) x (j:Nat) y u,es[i]? = some x->x[j]? = some y->arr[(0+i)*r'.size+j]? = some u->RD m.w m.ok y u:=by
    intro m a he
    obtain ⟨zc,hzc⟩:∃ zc:Array Value,zc=if n*r'.size=0 then #[] else z'.cells:=⟨_,rfl⟩
    obtain ⟨arr,h1,h2,_,h4⟩:=hfill m a ((Array.range (n*r'.size)).map (zc[· % zc.size]!)) he (by simp [<- hel,hn])
    have hsz:arr.size=n*r'.size:=by rw [h2];simp
    have hrun:(execOp a.eval o).run C.P m.w = .ok (.value (.slice (some ⟨m.w.heap.size,0,none⟩) n n)) (m.w.alloc (.cells arr r'.t (0,0))):=by
     refine cH (s:=Instr.buildSlice r.t n (parts.map fun x=>(x.1,a.eval x.2))) (by simp [execOp,ho]) ?_
     simp only [Instr.buildSlice,Sem.run_bind,aU hd,Result.andThen_ok,bS hi',hs']
     rw [if_neg (by omega)]
     by_cases h0:n*r'.size=0
     . rw [if_pos h0] at hzc
       rw [if_pos h0,<- hzc]
       simp only [Sem.run_bind,Sem.run_pure,Result.andThen_ok,Array.toList_map]
       rw [h1]
       simp [newRow]
     . rw [if_neg h0] at hzc
       rw [if_neg h0]
       simp only [Sem.run_bind,gF hi' hz',Sem.run_pure,Result.andThen_ok,Array.toList_map]
       rw [<- hzc,h1]
       simp [newRow]
    exact ⟨arr,hsz,hrun,h4⟩
   cases n with
   | zero=>
     change (match C.frz with | true=>K .emp top | false=>newK top (.row r'.t r'.size es) (fun i top'=>K (.row 0 i 0) top')) at h
     cases hfz:C.frz with
     | true=>
       rw [hfz] at h
       refine ⟨_,_,h,Ext.refl _,fun m a hinv he hfree next Q hnext=>?_⟩
       obtain ⟨arr,hsz,hrun,h4⟩:=hrun0 m a he
       unfold Oper.wp
       rw [hrun]
       have hsz':(m.w.alloc (.cells arr r'.t (0,0))).heap.size=m.w.heap.size+1:=by simp
       have hg:Grow m ⟨m.w.alloc (.cells arr r'.t (0,0)),m.ρ,m.U⟩:=⟨rfl,rfl,rfl,by rw [hsz'];omega,fun k hk=>cF _ _ _ hk,fun _ _ _ h=>h,fun _ _=>Iff.rfl⟩
       exact hnext _ _ hg (fun _ _ _=>rfl) (fun j b u k h1 h2=>by have:=(aAe.1 h2).1;omega) (hinv.of_grow hg rfl rfl) (.emp _)
     | false=>
       rw [hfz] at h
       change newK top (.row r'.t r'.size es) (fun i top'=>K (.row 0 i 0) top') at h
       unfold newK at h
       rw [lenK_spec,snocK_spec] at h
       refine ⟨_,_,h,Ext.app _ _,fun m a hinv he hfree next Q hnext=>?_⟩
       obtain ⟨arr,hsz,hrun,h4⟩:=hrun0 m a he
       have hfr:m.ρ 0 top.length=none:=hfree _ (aBo _) (by simp)
       unfold Oper.wp
       rw [hrun]
       have hg:=gD m (.cells arr r'.t (0,0)) top.length (.slice (some ⟨m.w.heap.size,0,none⟩) 0 0) hfr
       refine hnext _ (m.new (.cells arr r'.t (0,0)) top.length (.slice (some ⟨m.w.heap.size,0,none⟩) 0 0)) hg (fun l j hj=>?_) (fun j b' u' k h1 h2 hu' hk=>?_) (mY hinv hfr rfl rfl ?_) (.row _ _ _ 0 0 _ (by simp [M.new]) (aBo _) (aBo _))
       . simp only [M.new]
         rw [if_neg]
         rintro ⟨rfl,rfl⟩
         exact hj ⟨rfl,aBo _,by simp⟩
       . obtain rfl:j=top.length:=by have:=(aAe.1 h2).1;simp at this;omega
         simp only [M.new,and_self,if_true,Option.some.injEq] at hu'
         subst hu'
         rw [aAj (aBo _),aB2] at h2
         cases h2
         cases hk
         exact aBo _
       . intro v hv
         simp only [M.new,and_self,if_true,Option.some.injEq] at hv
         subst hv
         refine ⟨hpos,hes,arr.toList,?_,fun i x j y u hx hy hu=>?_⟩
         . rw [hn]
           exact World.ownsRow_lit m.w arr 0 (aBn _) (by unfold maxLen;omega) hsz
         . exact RD.keep hg.keep (h4 i x j y u hx hy (by rw [Nat.zero_add];simpa using hu))
   | succ n=>
     change K (.d (.sl es)) top at h
     refine ⟨_,_,h,Ext.refl _,fun m a hinv he hfree next Q hnext=>?_⟩
     obtain ⟨arr,hsz,hrun,h4⟩:=hrun0 m a he
     unfold Oper.wp
     rw [hrun]
     have hsz':(m.w.alloc (.cells arr r'.t (0,0))).heap.size=m.w.heap.size+1:=by simp
     have hg:Grow m ⟨m.w.alloc (.cells arr r'.t (0,0)),m.ρ,m.U⟩:=⟨rfl,rfl,rfl,by rw [hsz'];omega,fun k hk=>cF _ _ _ hk,fun _ _ _ h=>h,fun _ _=>Iff.rfl⟩
     refine hnext _ _ hg (fun _ _ _=>rfl) (fun j b u k h1 h2=>by have:=(aAe.1 h2).1;omega) (hinv.of_grow hg rfl rfl) ?_
     have hn1:es.length=n+1:=hn
     have cell:∀ (i:Nat) x (j:Nat) y,es[i]? = some x->x[j]? = some y -> ∃ u,arr[i*r'.size+j]? = some u:=fun i x j y hx hy=>by
      have h1:i < n+1:=by rw [<- hn1];exact (aAe.1 hx).1
      have h2:j < r'.size:=by rw [<- hes x (aAg hx)];exact (aAe.1 hy).1
      have h3:i*r'.size+r'.size<=(n+1)*r'.size:=by rw [<- Nat.succ_mul];exact Nat.mul_le_mul_right _ h1
      exact ⟨_,Array.getElem?_eq_getElem (by omega)⟩
     refine .d _ _ (.sl r'.size _ _ _ _ ⟨m.w.heap.size,0,none⟩ (fun k=>arr.getD k undef) hn1 (aBo _) (by have:n+1<=(n+1)*r'.size:=Nat.le_mul_of_pos_right _ hpos;omega) (fun _=>rfl) hes (fun i x j y hx hy=>?_) (fun i x j y hx hy=>?_))
     . obtain ⟨u,hu⟩:=cell i x j y hx hy
       refine ⟨⟨?_,fun hU=>?_⟩,?_⟩
       . show m.w.heap.size < (m.w.alloc (.cells arr r'.t (0,0))).heap.size;omega
       . have:=hinv.lt _ hU;simp at this
       . rw [bT,Nat.zero_add]
         have hh:=gE m.w (.cells arr r'.t (0,0))
         show (m.w.alloc (.cells arr r'.t (0,0))).cell? ⟨m.w.heap.size,i*r'.size+j,none⟩=_
         simp only [World.cell?,hh,hu]
         simp [hu]
     . obtain ⟨u,hu⟩:=cell i x j y hx hy
       have:=(h4 i x j y u hx hy (by rw [Nat.zero_add];exact hu)).keep hg.keep
       simpa [hu] using this
 | load t x=>
   rw [ho] at h
   obtain ⟨p,hp,h⟩:=aT h
   exact yX hC ho hp h
 | fieldAddr t x f=>
   rw [ho] at h
   obtain ⟨p,hp,h⟩:=aT h
   obtain ⟨q,hq,hh⟩:=nG hC h
   refine ⟨q,top,hq,Ext.refl _,bE fun m a hi he=>?_⟩
   obtain ⟨u,hu,hr⟩:=hh m _ (aO he (by simp [ho,Op.operands]) hp)
   exact ⟨u,cH (by simp [execOp,ho]) (hu _),hr⟩
 | indexAddr t x ix=>
   rw [ho] at h
   obtain ⟨p,hp,h⟩:=aT h
   obtain ⟨p2,hp2,h⟩:=aT h
   split at h
   case h_2=>exact h.elim
   rename_i k n
   obtain ⟨q,hq,hh⟩:=wT hC h
   refine ⟨q,top,hq,Ext.refl _,bE fun m a hi he=>?_⟩
   have h2:=aO he (x:=ix) (by simp [ho,Op.operands]) hp2
   generalize hv:a.eval ix=v at h2
   cases h2 with
   | d _ _ h2=>
     cases h2
     obtain ⟨u,hu,hr⟩:=hh m _ k hi (aO he (by simp [ho,Op.operands]) hp)
     exact ⟨u,cH (by simp [execOp,ho,hv]) hu,hr⟩
 | binOp op t x y ty=>
   rw [ho] at h
   obtain ⟨p,hp,h⟩:=aT h
   obtain ⟨p2,hp2,h⟩:=aT h
   obtain ⟨q,hq,hh⟩:=wV hC h
   refine ⟨q,top,hq,Ext.refl _,bE fun m a hi he=>?_⟩
   obtain ⟨u,hu,hr⟩:=hh m _ _ x y (aO he (by simp [ho,Op.operands]) hp) (aO he (by simp [ho,Op.operands]) hp2)
   exact ⟨u,cH (by simp only [execOp,ho]) hu,hr⟩
 | unOp op t x=>
   rw [ho] at h
   cases op with
   | not=>
     obtain ⟨p,hp,h⟩:=aT h
     have mx:x ∈ o.op.operands.toList:=by simp [ho,Op.operands]
     have ex:∀ (a:Act) (w:World) (b:Bool),a.eval x = .bool b->(execOp a.eval o).run C.P w = .ok (.value (.bool (!b))) w:=fun a w b hb=>by
      simp [execOp,ho,Op.unary,hb]
     split at h
     . refine ⟨_,top,h,Ext.refl _,bE fun m a hi he=>?_⟩
       have:=aO he mx hp
       generalize hv:a.eval x=v at this
       cases this
       exact ⟨_,ex a _ _ hv,.ub _⟩
     . refine ⟨_,top,h,Ext.refl _,bE fun m a hi he=>?_⟩
       have:=aO he mx hp
       generalize hv:a.eval x=v at this
       cases this
       exact ⟨_,ex a _ _ hv,.kb _⟩
     . refine ⟨_,top,h,Ext.refl _,bE fun m a hi he=>?_⟩
       have:=aO he mx hp
       generalize hv:a.eval x=v at this
       cases this with
       | d _ _ hb=>cases hb;exact ⟨_,ex a _ _ hv,dH _⟩
     . exact h.elim
   | _=>exact h.elim
 | slice t x lo hi mx=>
   rw [ho] at h
   cases mx with
   | some _=>exact h.elim
   | none=>
     obtain ⟨p,hp,h⟩:=aT h
     obtain ⟨l,h,hl0,hl1⟩:=iL h
     obtain ⟨hh,h,hh0,hh1⟩:=iL h
     obtain ⟨q,hq,hq2⟩:=oR hC h
     refine ⟨q,top,hq,Ext.refl _,bE fun m a hinv he=>?_⟩
     have memx:x ∈ o.op.operands.toList:=by rw [ho];simp [Op.operands]
     have meml:∀ y,lo=some y->y ∈ o.op.operands.toList:=fun y hy=>by rw [ho,hy];simp [Op.operands]
     have memh:∀ y,hi=some y->y ∈ o.op.operands.toList:=fun y hy=>by rw [ho,hy];simp [Op.operands]
     obtain ⟨u,hu,hr3⟩:=hq2 m (a.eval x) (lo.map a.eval) (hi.map a.eval) (aO he memx hp)
      (fun p' hp'=>by
        cases lo with
        | none=>rw [hl0 rfl] at hp';cases hp'
        | some y=>obtain ⟨p2,h1,h2⟩:=hl1 y rfl;rw [h1] at hp';cases hp';exact ⟨_,rfl,aO he (meml y rfl) h2⟩)
      (fun hn=>by
        cases lo with
        | none=>rfl
        | some y=>obtain ⟨p2,h1,h2⟩:=hl1 y rfl;rw [h1] at hn;cases hn)
      (fun p' hp'=>by
        cases hi with
        | none=>rw [hh0 rfl] at hp';cases hp'
        | some y=>obtain ⟨p2,h1,h2⟩:=hh1 y rfl;rw [h1] at hp';cases hp';exact ⟨_,rfl,aO he (memh y rfl) h2⟩)
      (fun hn=>by
        cases hi with
        | none=>rfl
        | some y=>obtain ⟨p2,h1,h2⟩:=hh1 y rfl;rw [h1] at hn;cases hn)
     exact ⟨u,cH (by simp [execOp,ho]) (hu _),hr3⟩
 | makeFunc fn fs cs=>
   rw [ho] at h
   obtain ⟨ps,h,hl,hr⟩:=gJ (ys:=o.op.operands.toList) h (fun x hx=>by rw [ho];simp only [Op.operands,Array.toList_append];exact List.mem_append_left _ hx)
   obtain ⟨qs,h,hl2,hr2⟩:=gJ (ys:=o.op.operands.toList) h (fun x hx=>by rw [ho];simp only [Op.operands,Array.toList_append];exact List.mem_append_right _ hx)
   refine ⟨_,top,h,Ext.refl _,bE fun m a hi he=>⟨.func fn (fs.map a.eval) (cs.map a.eval),by simp [execOp,ho,Instr.makeFunc],.func _ _ _ _ _ (by simp [hl]) (by simp [hl2]) (fun j p v hp hv=>?_) (fun j p v hp hv=>?_)⟩⟩
   . rw [Array.getElem?_map] at hv
     obtain ⟨x,hx,rfl⟩:=aBq.1 hv
     exact hr m a he j p x hp (by simpa using hx)
   . rw [Array.getElem?_map] at hv
     obtain ⟨x,hx,rfl⟩:=aBq.1 hv
     exact hr2 m a he j p x hp (by simpa using hx)
 | index t x ix=>
   rw [ho] at h
   obtain ⟨p,hp,h⟩:=aT h
   obtain ⟨p2,hp2,h⟩:=aT h
   split at h
   case h_2=>exact h.elim
   rename_i cs k n h__
   clear h__
   obtain ⟨r,hr,ht_,h_⟩:=lookK_spec h
   clear h
   subst ht_
   obtain ⟨ii,z,d,hii,hs,hb,hz,hzz,hd,hty⟩:=aP hC hr
   split at h_
   case h_2=>exact h_.elim
   rename_i len e hty0
   obtain ⟨h0,h1,h_2⟩:=h_
   obtain ⟨r',hr',ht_,h⟩:=lookK_spec h_2
   clear h_2
   subst ht_
   obtain ⟨i2,z2,d2,hi2,hs2,hb2,hz2,hzz2,hd2,hty2⟩:=aP hC hr'
   rw [hty0] at hty
   obtain ⟨rfl⟩:d = .array len r'.t:=by cases d <;> simp [tyOf] at hty <;> simp [hty]
   obtain ⟨hsub,h⟩:=subK_spec.1 h
   obtain ⟨q,hq,hone,hrel⟩:=eT h
   refine ⟨q,top,hq,Ext.refl _,bE fun m a hinv he=>?_⟩
   have r1:=aO he (x:=x) (by simp [ho,Op.operands]) hp
   have r2:=aO he (x:=ix) (by simp [ho,Op.operands]) hp2
   generalize hv:a.eval x=v at r1
   generalize hv2:a.eval ix=v2 at r2
   cases r1 with
   | agg _ vs e1 e2=>
   cases r2 with
   | d _ _ hx=>
   cases hx
   have hlen:((vs.toList.drop (n.toNat*r'.size)).take r'.size).length=((cs.drop (n.toNat*r'.size)).take r'.size).length:=by simp [e1]
   have hrp:=hrel m ((vs.toList.drop (n.toNat*r'.size)).take r'.size) hlen (fun j p v hp hv=>by
    have hj:j < r'.size:=by
     rcases aBl j r'.size with h | h
     . exact h
     . rw [List.getElem?_eq_none (by rw [aAl];omega)] at hp;cases hp
    rw [List.getElem?_take_of_lt hj,aA1] at hp hv
    exact e2 _ p v hp (by simpa using hv))
   refine ⟨_,cH (s:=Instr.index r.t (.agg vs) (.int k n)) (by simp [execOp,ho,hv,hv2]) ?_,hrp⟩
   simp only [Instr.index,asIntOf,Sem.run_bind,Sem.run_pure,Result.andThen_ok,aU hd]
   rw [if_pos ⟨h0,h1⟩]
   simp only [Sem.run_bind,bS hi2,hs2,Result.andThen_ok,part,uP hd2,hty2]
   cases ha:r'.ty.isAgg with
   | true=>
     simp only [if_true,Sem.run_bind,bS hi2,hs2,Result.andThen_ok,Sem.run_pure]
     congr 2
     apply Array.ext'
     simp [List.extract_eq_take_drop]
   | false=>
     have h1':=hone ha
     have hcl:n.toNat*r'.size+r'.size<=cs.length:=hsub
     have hr1:r'.size=1:=by rw [aAl,aAq] at h1';omega
     have hlt:n.toNat*r'.size < vs.size:=by omega
     simp only [Bool.false_eq_true,if_false,Array.getElem?_eq_getElem hlt,Sem.run_pure]
     congr 1
     have hg:((vs.toList.drop (n.toNat*r'.size)).take r'.size)[0]? = some vs[n.toNat*r'.size]:=by
      rw [List.getElem?_take_of_lt (by omega),aA1,Nat.add_zero]
      simp [hlt]
     rw [List.getD,hg];rfl
 | makeSlice t l c=>
   rw [ho] at h
   obtain ⟨p,hp,h⟩:=aT h
   obtain ⟨p2,hp2,h⟩:=aT h
   split at h
   case h_2=>exact h.elim
   rename_i k n k' n' h__
   clear h__
   obtain ⟨r,hr,ht_,h_⟩:=lookK_spec h
   clear h
   subst ht_
   obtain ⟨ii,z,d,hii,hs,hb,hz,hzz,hd,hty⟩:=aP hC hr
   split at h_
   case h_2=>exact h_.elim
   rename_i e hty0
   obtain ⟨r',hr',ht_,h⟩:=lookK_spec h_
   clear h_
   subst ht_
   obtain ⟨i2,z2,d2,hi2,hs2,hb2,hz2,hzz2,hd2,hty2⟩:=aP hC hr'
   rw [hty0] at hty
   obtain ⟨e,rfl⟩:∃ e,d = .slice e:=by cases d <;> simp [tyOf] at hty <;> exact ⟨_,rfl⟩
   simp only [tyOf,Ty.slice.injEq] at hty
   subst hty
   simp only [ifK] at h
   split at h
   case h_2=>exact h.elim
   rename_i hpos
   have hpos:0 < r'.size:=by simpa [Nat.blt_eq] using hpos
   obtain ⟨zs,h,hzl,hzr⟩:=dR h
   rw [lenK_spec] at h
   split at h
   case h_2=>exact h.elim
   rename_i hzs
   have hzs:=aBj hzs
   obtain ⟨rfl,h0,hby,h63,h⟩:=h
   unfold newK at h
   rw [lenK_spec,snocK_spec] at h
   have hzc:z2.cells.size=r'.size:=by rw [<- hzs,hzl,<- hzz2];simp
   refine ⟨_,_,h,Ext.app _ _,nT rfl fun m a hinv he=>?_⟩
   have r1:=aO he (x:=l) (by simp [ho,Op.operands]) hp
   have r2:=aO he (x:=c) (by simp [ho,Op.operands]) hp2
   generalize hv:a.eval l=v at r1
   generalize hv2:a.eval c=v2 at r2
   cases r1 with
   | d _ _ hx=>
   cases hx
   cases r2 with
   | d _ _ hx=>
   cases hx
   have hrun:=run_make (P:=C.P) (w:=m.w) r.t r'.t i2 z2 hd hi2 hz2 k k' n n h0 (Int.le_refl _) (by rw [hb2];exact hby) h63
   refine ⟨_,_,_,.slice (some ⟨m.w.heap.size,0,none⟩) n.toNat n.toNat,cH (s:=Instr.makeSlice r.t (.int k n) (.int k' n)) (by simp [execOp,ho,hv,hv2]) hrun,rfl,fun hfree=>⟨fun u hu=>?_,.row _ _ _ n.toNat n.toNat _ (by simp [M.new]) (aBo _) (aBo _)⟩⟩
   simp only [M.new,and_self,if_true,Option.some.injEq] at hu
   subst hu
   refine ⟨hpos,fun x hx=>by rw [(List.mem_replicate.1 hx).2,hzs],(madeCells z2.cells (n.toNat*i2.size)).toList,?_,fun i x j y u hx hy hu=>?_⟩
   . rw [aBh]
     exact World.ownsRow_lit m.w _ n.toNat (aBn _) (by unfold maxLen;omega) (by rw [size_madeCells,hs2])
   . have hx':x=zs:=by have:=aAg hx;exact (List.mem_replicate.1 this).2
     subst hx'
     have hj:j < r'.size:=by rw [<- hzs];exact (aAe.1 hy).1
     have hlt:i*r'.size+j < n.toNat*i2.size:=by have:=(aAe.1 hu).1;simpa [size_madeCells] using this
     have huz:u=(z2.cells.toList.getD j undef):=by
      simp [madeCells,hlt,hzc] at hu
      rw [<- hu]
      rw [Nat.mod_eq_of_lt hj,getElem!_pos z2.cells j (by omega)]
      simp [show j < z2.cells.size by omega]
     rw [huz]
     refine RD.keep (gD m _ _ _ hfree).keep (hzr m (fun j=>z2.cells.toList.getD j undef) (fun j p hp=>?_) j y hy)
     rw [<- hzz2,aAi] at hp
     obtain ⟨v,hv,rfl⟩:=aBq.1 hp
     have:z2.cells.toList.getD j undef=v:=by rw [List.getD,hv];rfl
     rw [this]
     exact pU m v
 | extract x i=>
   rw [ho] at h
   obtain ⟨p,hp,h⟩:=aT h
   split at h
   case h_2=>exact h.elim
   rename_i cs
   obtain ⟨q,hq,h⟩:=getK_spec.1 h
   refine ⟨q,top,h,Ext.refl _,bE fun m a hi he=>?_⟩
   have:=aO he (x:=x) (by simp [ho,Op.operands]) hp
   generalize hv:a.eval x=v at this
   cases this with
   | tuple _ vs h1 h2=>
     have hlt:i < vs.size:=by rw [<- h1];exact (aAe.1 hq).1
     have hvi:vs[i]? = some vs[i]:=Array.getElem?_eq_getElem hlt
     exact ⟨vs[i],by simp [execOp,ho,hv,Instr.extract,hvi],h2 i q _ hq hvi⟩
 | convert s d x=>
   rw [ho] at h
   obtain ⟨p,hp,h⟩:=aT h
   exact wY hC ho hp h
 | call c=>exact absurd ho (hcall c)
 | _=>rw [ho] at h;exact h.elim
end Go.Proofs.Ve
