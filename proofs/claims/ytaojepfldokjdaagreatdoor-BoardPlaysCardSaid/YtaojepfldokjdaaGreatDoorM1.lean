/- Laws that the claim's text stands on: part M1 of them. -/
import Derived.CallsIn
import Derived.RangeFuncCalls
import Derived.RangeFuncLeaves
import Derived.RangeFuncNested
import Derived.Laws.Sem
import Derived.Laws.World
import Derived.Below
import Derived.Laws.StructEq
set_option linter.unusedVariables false
set_option linter.unusedSimpArgs false
section
namespace Go.Gv
universe u
inductive D where
 |v (x:Value)
 |sl (k:Nat) (xs:List (List D))
 |ptr (cs:List D)
 |fn (f:FuncId) (caps:List D)
 |ifc (t:TypeId) (x:D)
 |ifa (t:TypeId) (cs:List D)
 |mp (ag:Bool) (ks:List Value) (vs:List (List D))
inductive AV where
 |d (x:D)
 |full (k:Nat) (xs:List (List D))
 |box (i off:Nat)
 |boxX (i off:Nat)
 |arr (i k n:Nat)
 |suf (i k l n:Nat)
 |fnp (f:FuncId) (caps:List AV)
 |agg (cs:List AV)
 |tup (vs:List AV)
 |mp (i:Nat)
 |junk
structure HF where
 c:Nat→Nat→Option Value
 m:Nat→Option (Array MapEntry×Nat)
structure Pl where
 b:Nat
 n:Nat
 o:Nat→Prop
abbrev Ids:=Nat→Pl
def rF (ag:Bool)(us:List Value):Value:=match ag with
 |true=>.agg us.toArray
 |false=>us.headD undef
inductive RepD (H:HF):D→Value→Prop where
 |v (x:Value) (h:x.oneCell'=true):RepD H (.v x) x
 |fn (f:FuncId) (cs:List D) (us:List Value) (hl:us.length=cs.length) (h:∀(j:Nat)(a:D)(u:Value),cs[j]?=some a→us[j]?=some u→RepD H a u):RepD H (.fn f cs) (.func (.func f) #[] us.toArray)
 |ifc (t:TypeId) (x:D) (u:Value) (h:RepD H x u):RepD H (.ifc t x) (.iface t u)
 |ifa (t:TypeId) (cs:List D) (us:List Value) (hl:us.length=cs.length) (h:∀(j:Nat)(a:D)(u:Value),cs[j]?=some a→us[j]?=some u→RepD H a u):RepD H (.ifa t cs) (.iface t (.agg us.toArray))
 |ptr (cs:List D) (b o:Nat) (us:Nat→Value) (hc:∀j,j<cs.length→H.c b (o+j)=some (us j)) (h:∀(j:Nat)(a:D),cs[j]?=some a→RepD H a (us j)):
  RepD H (.ptr cs) (.pointer (some ⟨b,o,none⟩))
 |sl (k:Nat) (xs:List (List D)) (A:Option Addr) (c b o:Nat) (us:Nat→Nat→Value) (hk:∀cs,cs∈xs→cs.length=k)
  (hn:xs.length≤c) (hc:xs.length≤9223372036854775807) (hA:0<xs.length→A=some ⟨b,o,none⟩) (hH:∀j i,j<xs.length→i<k→H.c b (o+j*k+i)=some (us j i))
  (h:∀(j i:Nat)(cs:List D)(a:D),xs[j]?=some cs→cs[i]?=some a→RepD H a (us j i)):RepD H (.sl k xs) (.slice A xs.length c)
 |mp (ag:Bool) (ks:List Value) (vs:List (List D)) (b:Nat) (es:Array MapEntry) (clock:Nat) (us:Nat→List Value) (hm:H.m b=some (es,clock)) (hl:es.size=ks.length) (hl2:vs.length=ks.length)
  (hk:∀(j:Nat)(e:MapEntry),es[j]?=some e→ks[j]?=some e.key∧e.val=rF ag (us j)) (hu:∀(j:Nat)(cs:List D),vs[j]?=some cs→(us j).length=cs.length)
  (h:∀(j i:Nat)(cs:List D)(a:D)(u:Value),vs[j]?=some cs→cs[i]?=some a→(us j)[i]?=some u→RepD H a u):RepD H (.mp ag ks vs) (.map (some b))
inductive Rep (γ:Ids)(H:HF):AV→Value→Prop where
 |junk (u:Value):Rep γ H .junk u
 |d (x:D) (u:Value) (h:RepD H x u):Rep γ H (.d x) u
 |full (k:Nat) (xs:List (List D)) (A:Option Addr) (h:RepD H (.sl k xs) (.slice A xs.length xs.length)):Rep γ H (.full k xs) (.slice A xs.length xs.length)
 |agg (cs:List AV) (us:List Value) (hl:us.length=cs.length) (h:∀(j:Nat)(a:AV)(u:Value),cs[j]?=some a→us[j]?=some u→Rep γ H a u):Rep γ H (.agg cs) (.agg us.toArray)
 |tup (cs:List AV) (us:List Value) (hl:us.length=cs.length) (h:∀(j:Nat)(a:AV)(u:Value),cs[j]?=some a→us[j]?=some u→Rep γ H a u):Rep γ H (.tup cs) (.tuple us.toArray)
 |fnp (f:FuncId) (cs:List AV) (us:List Value) (hl:us.length=cs.length) (h:∀(j:Nat)(a:AV)(u:Value),cs[j]?=some a→us[j]?=some u→Rep γ H a u):Rep γ H (.fnp f cs) (.func (.func f) #[] us.toArray)
 |box (i off:Nat):Rep γ H (.box i off) (.pointer (some ⟨(γ i).b,off,none⟩))
 |boxX (i off:Nat):Rep γ H (.boxX i off) (.pointer (some ⟨(γ i).b,off,none⟩))
 |mp (i:Nat):Rep γ H (.mp i) (.map (some (γ i).b))
 |arr (i k n:Nat) (A:Option Addr) (hn:n≤(γ i).n) (hA:0<(γ i).n→A=some ⟨(γ i).b,0,none⟩):Rep γ H (.arr i k n) (.slice A n (γ i).n)
 |suf (i k l n:Nat) (A:Option Addr) (hn:l+n≤(γ i).n) (hA:l<(γ i).n→A=some ⟨(γ i).b,l*k,none⟩):Rep γ H (.suf i k l n) (.slice A n ((γ i).n-l))
structure HLe (H H':HF):Prop where
 c:∀b o v,H.c b o=some v→H'.c b o=some v
 m:∀b x,H.m b=some x→H'.m b=some x
theorem HLe.refl (H:HF):HLe H H:=⟨fun _ _ _ h=>h,fun _ _ h=>h⟩
theorem HLe.trans {A B C:HF}(h:HLe A B)(k:HLe B C):HLe A C:=⟨fun b o v x=>k.c b o v (h.c b o v x),fun b x y=>k.m b x (h.m b x y)⟩
theorem RepD.mono {H H':HF}(hle:HLe H H'){a:D}{u:Value}(r:RepD H a u):RepD H' a u:=by
 induction r with
 |v x h=>exact .v x h
 |fn f cs us hl _ ih=>exact .fn f cs us hl ih
 |ifc t x u _ ih=>exact .ifc t x u ih
 |ifa t cs us hl _ ih=>exact .ifa t cs us hl ih
 |ptr cs b o us hc _ ih=>exact .ptr cs b o us (fun j hj=>hle.c _ _ _ (hc j hj)) ih
 |sl k xs A c b o us hk hn hc hA hH _ ih=>exact .sl k xs A c b o us hk hn hc hA (fun j i hj hi=>hle.c _ _ _ (hH j i hj hi)) ih
 |mp ag ks vs b es clock us hm hl hl2 hk hu _ ih=>exact .mp ag ks vs b es clock us (hle.m _ _ hm) hl hl2 hk hu ih
theorem Rep.mono {γ:Ids}{H H':HF}(hle:HLe H H'){a:AV}{u:Value}(r:Rep γ H a u):Rep γ H' a u:=by
 induction r with
 |junk u=>exact .junk u
 |d x u h=>exact .d x u (h.mono hle)
 |full k xs A h=>exact .full k xs A (h.mono hle)
 |agg cs us hl _ ih=>exact .agg cs us hl ih
 |tup cs us hl _ ih=>exact .tup cs us hl ih
 |fnp f cs us hl _ ih=>exact .fnp f cs us hl ih
 |box i off=>exact .box i off
 |boxX i off=>exact .boxX i off
 |mp i=>exact .mp i
 |arr i k n A hn hA=>exact .arr i k n A hn hA
 |suf i k l n A hn hA=>exact .suf i k l n A hn hA
theorem aQ {α:Type u}{l:List α}{j:Nat}{a:α}(h:l[j]?=some a):a∈l:=List.mem_of_getElem? h
def bX (i:Nat):AV→Bool
 |.d _=>false
 |.full _ _=>false
 |.junk=>false
 |.box j _=>Nat.beq i j
 |.boxX j _=>Nat.beq i j
 |.arr j _ _=>Nat.beq i j
 |.suf j _ _ _=>Nat.beq i j
 |.mp j=>Nat.beq i j
 |_=>true
def cm (i:Nat):AV→Bool
 |.agg cs=>cs.any (bX i)
 |.tup cs=>cs.any (bX i)
 |.fnp _ cs=>cs.any (bX i)
 |a=>bX i a
def aP (i:Nat):AV→Bool
 |.agg cs=>cs.any (cm i)
 |.tup cs=>cs.any (cm i)
 |.fnp _ cs=>cs.any (cm i)
 |a=>cm i a
theorem q8 {α:Type}{f:α→Bool}{l:List α}(h:l.any f=false){j:Nat}{a:α}(ha:l[j]?=some a):f a=false:=by
 have:=List.any_eq_false.1 h a (aQ ha)
 simpa using this
theorem Rep.agreeA {γ γ':Ids}{H:HF}{a:AV}{u:Value}(r:Rep γ H a u):(∀i,bX i a=true→γ i=γ' i)→Rep γ' H a u:=by
 induction r with
 |junk=>exact fun _=>.junk _
 |d x u h=>exact fun _=>.d x u h
 |full k xs A h=>exact fun _=>.full k xs A h
 |agg cs us hl _ ih=>exact fun h=>.agg cs us hl fun j a u h1 h2=>ih j a u h1 h2 fun i hi=>h i rfl
 |tup cs us hl _ ih=>exact fun h=>.tup cs us hl fun j a u h1 h2=>ih j a u h1 h2 fun i hi=>h i rfl
 |fnp f cs us hl _ ih=>exact fun h=>.fnp f cs us hl fun j a u h1 h2=>ih j a u h1 h2 fun i hi=>h i rfl
 |box i off=>exact fun hg=>by rw[hg i (by simp[bX])];exact .box i off
 |boxX i off=>exact fun hg=>by rw[hg i (by simp[bX])];exact .boxX i off
 |mp i=>exact fun hg=>by rw[hg i (by simp[bX])];exact .mp i
 |arr i k n A hn hA=>exact fun hg=>by have:=hg i (by simp[bX]);rw[this]at hn hA ⊢;exact .arr i k n A hn hA
 |suf i k l n A hn hA=>exact fun hg=>by have:=hg i (by simp[bX]);rw[this]at hn hA ⊢;exact .suf i k l n A hn hA
theorem Rep.agree1 {γ γ':Ids}{H:HF}{a:AV}{u:Value}(hg:∀i,cm i a=true→γ i=γ' i)(r:Rep γ H a u):Rep γ' H a u:=by
 cases r with
 |agg cs us hl hr=>exact .agg cs us hl fun j a u h1 h2=>(hr j a u h1 h2).agreeA fun i hi=>hg i (by simp only[cm,List.any_eq_true];exact⟨a,aQ h1,hi⟩)
 |tup cs us hl hr=>exact .tup cs us hl fun j a u h1 h2=>(hr j a u h1 h2).agreeA fun i hi=>hg i (by simp only[cm,List.any_eq_true];exact⟨a,aQ h1,hi⟩)
 |fnp f cs us hl hr=>exact .fnp f cs us hl fun j a u h1 h2=>(hr j a u h1 h2).agreeA fun i hi=>hg i (by simp only[cm,List.any_eq_true];exact⟨a,aQ h1,hi⟩)
 |junk=>exact .junk _
 |d x u h=>exact .d x u h
 |full k xs A h=>exact .full k xs A h
 |box i off=>exact(Rep.box i off).agreeA hg
 |boxX i off=>exact(Rep.boxX i off).agreeA hg
 |mp i=>exact(Rep.mp i).agreeA hg
 |arr i k n A hn hA=>exact(Rep.arr i k n A hn hA).agreeA hg
 |suf i k l n A hn hA=>exact(Rep.suf i k l n A hn hA).agreeA hg
theorem Rep.agree {γ γ':Ids}{H:HF}{a:AV}{u:Value}(hg:∀i,aP i a=true→γ i=γ' i)(r:Rep γ H a u):Rep γ' H a u:=by
 cases r with
 |agg cs us hl hr=>exact .agg cs us hl fun j a u h1 h2=>(hr j a u h1 h2).agree1 fun i hi=>hg i (by simp only[aP,List.any_eq_true];exact⟨a,aQ h1,hi⟩)
 |tup cs us hl hr=>exact .tup cs us hl fun j a u h1 h2=>(hr j a u h1 h2).agree1 fun i hi=>hg i (by simp only[aP,List.any_eq_true];exact⟨a,aQ h1,hi⟩)
 |fnp f cs us hl hr=>exact .fnp f cs us hl fun j a u h1 h2=>(hr j a u h1 h2).agree1 fun i hi=>hg i (by simp only[aP,List.any_eq_true];exact⟨a,aQ h1,hi⟩)
 |junk=>exact .junk _
 |d x u h=>exact .d x u h
 |full k xs A h=>exact .full k xs A h
 |box i off=>exact(Rep.box i off).agreeA hg
 |boxX i off=>exact(Rep.boxX i off).agreeA hg
 |mp i=>exact(Rep.mp i).agreeA hg
 |arr i k n A hn hA=>exact(Rep.arr i k n A hn hA).agreeA hg
 |suf i k l n A hn hA=>exact(Rep.suf i k l n A hn hA).agreeA hg
def AV.isD:AV→Bool
 |.d _=>true
 |.full _ _=>true
 |_=>false
def AV.isD1:AV→Bool
 |.agg cs=>cs.all AV.isD
 |a=>a.isD
def AV.open:AV→Bool
 |.agg cs=>cs.all AV.isD1
 |.tup vs=>vs.all AV.isD1
 |a=>a.isD
theorem zo {i:Nat}{a:AV}(h:a.isD=true):bX i a=false:=by cases a<;>simp_all [AV.isD,bX]
theorem pU {i:Nat}{a:AV}(h:a.isD1=true):cm i a=false:=by
 cases a with
 |agg cs=>
  simp only[AV.isD1,List.all_eq_true]at h
  simp only[cm,List.any_eq_false]
  intro x hx;simp[zo (h x hx)]
 |_=>simp_all [AV.isD1,AV.isD,cm,bX]
theorem gS {i:Nat}{a:AV}(h:a.open=true):aP i a=false:=by
 cases a with
 |agg cs=>
  simp only[AV.open,List.all_eq_true]at h
  simp only[aP,List.any_eq_false]
  intro x hx;simp[pU (h x hx)]
 |tup cs=>
  simp only[AV.open,List.all_eq_true]at h
  simp only[aP,List.any_eq_false]
  intro x hx;simp[pU (h x hx)]
 |_=>simp_all [AV.open,AV.isD,aP,cm,bX]
theorem Rep.free {γ γ':Ids}{H:HF}{a:AV}{u:Value}(r:Rep γ H a u)(h:a.open=true):Rep γ' H a u:=r.agree fun i hi=>by rw[gS h]at hi;cases hi
end Go.Gv
end
section
namespace Go.Gv
open Go.RowKit
universe u
def look {α:Type u}(i:Nat):List (Nat×α)→Option α
 |[]=>none
 |(j,a)::r=>match Nat.beq i j with|true=>some a|false=>look i r
theorem ae {α:Type u}(i j:Nat)(a:α)(r:List (Nat×α)):look i ((j,a)::r)=if i=j then some a else look i r:=by
 simp only[look]
 by_cases h:i=j
 ·simp[h]
 ·have:Nat.beq i j=false:=by rw[←Bool.not_eq_true,Nat.beq_eq];exact h
  simp[this,h]
theorem dB {α:Type u}(i:Nat):∀(l r:List (Nat×α)),look i (l++r)=(look i l).or (look i r)
 |[],r=>by simp[look]
 |(j,a)::l,r=>by
  rw[List.cons_append,ae,ae,dB i l r]
  split<;>simp
theorem cI {α:Type u}:∀{l:List (Nat×α)}{i:Nat}{a:α},look i l=some a→(i,a)∈l
 |[],i,a,h=>by simp[look]at h
 |(j,b)::r,i,a,h=>by
  rw[ae]at h
  split at h
  ·next e=>subst e;simp only[Option.some.injEq]at h;subst h;simp
  ·exact List.mem_cons_of_mem _ (cI h)
theorem ba {α:Type u}{q:Nat→Bool}:∀{l:List (Nat×α)}{i:Nat},look i (l.filter fun p=>q p.1)=if q i=true then look i l else none
 |[],i=>by simp[look]
 |(j,b)::r,i=>by
  rw[List.filter_cons]
  by_cases hq:q j=true
  ·rw[if_pos hq,ae,ae,ba]
   by_cases e:i=j
   ·subst e;simp[hq]
   ·rw[if_neg e,if_neg e]
  ·rw[if_neg hq,ba,ae]
   by_cases e:i=j
   ·subst e;simp[hq]
   ·rw[if_neg e]
def Wk {α:Type u}(l' l:List (Nat×α)):Prop:=∀i a,look i l'=some a→look i l=some a
theorem Wk.nil {α:Type u}(l:List (Nat×α)):Wk [] l:=fun _ _ h=>by simp[look]at h
theorem Wk.refl {α:Type u}(l:List (Nat×α)):Wk l l:=fun _ _ h=>h
theorem Wk.trans {α:Type u}{a b c:List (Nat×α)}(h:Wk a b)(k:Wk b c):Wk a c:=fun i x hi=>k i x (h i x hi)
theorem Wk.cons {α:Type u}{l' l:List (Nat×α)}{i:Nat}{a:α}(h:look i l=some a)(k:Wk l' l):Wk ((i,a)::l') l:=fun j b hb=>by
 rw[ae]at hb
 split at hb
 ·next e=>rw[e];exact h.trans hb
 ·exact k j b hb
structure Amb where
 p:World→Prop
 g:Nat
 st:∀{w w':World},p w→(∀k,k<g→w'.heap[k]?=w.heap[k]?)→p w'
def Lam (Λ:Amb)(w:World)(B:Nat→Prop):Prop:=Λ.p w∧Λ.g≤w.heap.size∧∀b,B b→Λ.g≤b
def Fr (ro:Option Nat):Fence:={fn:=fun _=>True,depth:=none,alive:=false,round:=ro}
def fI (P:Program)(f:FuncId):Prop:=∀(args:Array Value)(w:World),(callFunc f args).run P w=.ok (.enter f args) w
def DC (P:Program)(fv:Value)(vs:List Value)(w:World)(R:Value→World→Prop):Prop:=
 (∃(f:Nat)(caps:Array Value),fv=.func (.func f) #[] caps∧fI P f∧CallsIn (Fr none) 0 P f (vs.toArray++caps) w fun e w'=>∃v,e=.returned v∧R v w')∨
 (∃l f tmps assign body,fv=.func (.yield l) #[] #[]∧(Instr.yield l vs.toArray).run P w=.ok (.round l f tmps assign body) w∧RoundIn (Fr none) 0 P l f tmps assign body w fun e w'=>∃v,e=.returned v∧R v w')
structure HNew (n:Nat)(B:Nat→Prop)(H H':HF):Prop where
 c:∀b o v,H'.c b o=some v→H.c b o=some v∨n≤b∨B b
 m:∀b x,H'.m b=some x→H.m b=some x∨n≤b∨B b
theorem HNew.refl (n:Nat)(B:Nat→Prop)(H:HF):HNew n B H H:=⟨fun _ _ _ h=>.inl h,fun _ _ h=>.inl h⟩
structure HOk (H:HF)(w:World):Prop where
 c:∀b o v,H.c b o=some v→w.cell? ⟨b,o,none⟩=some v
 m:∀b es c,H.m b=some (es,c)→w.heap[b]?=some (.map es c)
structure Free (H:HF)(b:Nat):Prop where
 c:∀o,H.c b o=none
 m:H.m b=none
structure Keeps (w0:World)(B:Nat→Prop)(w:World):Prop where
 os:w.os=w0.os
 tape:w.tape=w0.tape
 output:w.output=w0.output
 size:w0.heap.size≤w.heap.size
 block:∀k,k<w0.heap.size→¬B k→w.heap[k]?=w0.heap[k]?
theorem Keeps.refl (B:Nat→Prop)(w:World):Keeps w B w:=⟨rfl,rfl,rfl,Nat.le_refl _,fun _ _ _=>rfl⟩
theorem Keeps.below {w0 w:World}{B:Nat→Prop}(h:Keeps w0 B w)(hB:∀k,¬B k):Below w0.heap.size w0 w:=⟨h.os,h.tape,h.output,h.size,fun k hk=>h.block k hk (hB k)⟩
theorem Lam.keep {Λ:Amb}{w0 w:World}{B:Nat→Prop}(h:Lam Λ w0 B)(k:Keeps w0 B w){C:Nat→Prop}(hC:∀b,C b→Λ.g≤b):Lam Λ w C:=
 ⟨Λ.st h.1 fun i hi=>k.block i (Nat.lt_of_lt_of_le hi h.2.1) fun hb=>absurd (h.2.2 i hb) (by omega),Nat.le_trans h.2.1 k.size,hC⟩
structure Stp (w:World)(H:HF)(O:Nat→Prop)(w':World)(H':HF)(O':Nat→Prop):Prop where
 keep:Keeps w O w'
 hle:HLe H H'
 hnew:HNew w.heap.size O H H'
 hok:HOk H' w'
 own:∀b,O' b→O b∨w.heap.size≤b
 free:∀b,O' b→Free H' b
structure Res where
 S:Type
 P:Program
 Λ:Amb
 fv:Value
 ok:S→(Nat→Prop)→HF→World→Prop
 lt:∀{s O H w},ok s O H w→∀b,O b→b<w.heap.size
 later:∀{s O H H' w w'},ok s O H w→HLe H H'→w.heap.size≤w'.heap.size→(∀b,O b→w'.heap[b]?=w.heap[b]?)→ok s O H' w'
 pre:S→List AV→Prop
 step:S→List AV→Bool→S→Prop
 run:∀{s xs},pre s xs→∀(H:HF)(w:World)(O:Nat→Prop)(vs:List Value),Lam Λ w O→ok s O H w→HOk H w→(∀b,O b→Free H b)→vs.length=xs.length→
  (∀(j:Nat)(a:AV)(u:Value),xs[j]?=some a→vs[j]?=some u→∀γ,Rep γ H a u)→
  DC P fv vs w fun v w'=>∃b s' H' O',v=.bool b∧step s xs b s'∧ok s' O' H' w'∧Stp w H O w' H' O'
inductive Ent where
 |gone
 |cells (cs:List AV)
 |cellsT (t:TypeId) (cs:List AV)
 |arr (k:Nat) (xs:List (List D))
 |arrT (t:TypeId) (k:Nat) (xs:List (List D))
 |mp (ag:Bool) (ks:List Value) (vs:List (List D))
 |obj (o:Obj)
 |res (ρ:Res) (s:ρ.S)
def Ent.var:Ent→Bool
 |.cells _=>true
 |.cellsT _ _=>true
 |_=>false
abbrev T:=List (Nat×AV)
abbrev Sg:=List (Nat×Ent)
def blk (γ:Ids)(i:Nat):Ent→Nat→Prop
 |.gone,_=>False
 |.cells _,b=>b=(γ i).b
 |.cellsT _ _,b=>b=(γ i).b
 |.arr _ _,b=>b=(γ i).b∧0<(γ i).n
 |.arrT _ _ _,b=>b=(γ i).b∧0<(γ i).n
 |.mp _ _ _,b=>b=(γ i).b
 |.obj _,b=>b=(γ i).b
 |.res _ _,b=>(γ i).o b
structure MapRep (H:HF)(ag:Bool)(ks:List Value)(vs:List (List D))(es:Array MapEntry)(us:Nat→List Value):Prop where
 l:es.size=ks.length
 l2:vs.length=ks.length
 k:∀(j:Nat)(e:MapEntry),es[j]?=some e→ks[j]?=some e.key∧e.val=rF ag (us j)
 u:∀(j:Nat)(cs:List D),vs[j]?=some cs→(us j).length=cs.length
 r:∀(j i:Nat)(cs:List D)(a:D)(u:Value),vs[j]?=some cs→cs[i]?=some a→(us j)[i]?=some u→RepD H a u
theorem MapRep.mono {H H':HF}(hle:HLe H H'){ag:Bool}{ks:List Value}{vs:List (List D)}{es:Array MapEntry}{us:Nat→List Value}(h:MapRep H ag ks vs es us):MapRep H' ag ks vs es us:=
 ⟨h.l,h.l2,h.k,h.u,fun j i cs a u h1 h2 h3=>(h.r j i cs a u h1 h2 h3).mono hle⟩
def EntOk (γ:Ids)(H:HF)(w:World)(i:Nat):Ent→Prop
 |.gone=>True
 |.cells cs=>∃(t:TypeId)(us:List Value),w.heap[(γ i).b]?=some (.cells us.toArray t (0,0))∧us.length=cs.length∧∀(j:Nat)(a:AV)(u:Value),cs[j]?=some a→us[j]?=some u→Rep γ H a u
 |.cellsT t cs=>∃(us:List Value),w.heap[(γ i).b]?=some (.cells us.toArray t (0,0))∧us.length=cs.length∧∀(j:Nat)(a:AV)(u:Value),cs[j]?=some a→us[j]?=some u→Rep γ H a u
 |.arr k xs=>xs.length≤(γ i).n∧(∀cs,cs∈xs→cs.length=k)∧(0<(γ i).n→∃(t:TypeId)(us:List Value),w.heap[(γ i).b]?=some (.cells us.toArray t (0,0))∧us.length=(γ i).n*k∧
  ∀(j l:Nat)(cs:List D)(a:D)(u:Value),xs[j]?=some cs→cs[l]?=some a→us[j*k+l]?=some u→RepD H a u)
 |.arrT t k xs=>xs.length≤(γ i).n∧(∀cs,cs∈xs→cs.length=k)∧(0<(γ i).n→∃(us:List Value),w.heap[(γ i).b]?=some (.cells us.toArray t (0,0))∧us.length=(γ i).n*k∧
  ∀(j l:Nat)(cs:List D)(a:D)(u:Value),xs[j]?=some cs→cs[l]?=some a→us[j*k+l]?=some u→RepD H a u)
 |.mp ag ks vs=>∃(es:Array MapEntry)(clock:Nat)(us:Nat→List Value),w.heap[(γ i).b]?=some (.map es clock)∧MapRep H ag ks vs es us
 |.obj o=>w.heap[(γ i).b]?=some o
 |.res ρ s=>ρ.ok s (γ i).o H w
structure Mem (w0:World)(H0:HF)(B:Nat→Prop)(γ:Ids)(H:HF)(σ:Sg)(w:World):Prop where
 keep:Keeps w0 B w
 hle:HLe H0 H
 hnew:HNew w0.heap.size B H0 H
 hok:HOk H w
 ent:∀i e,look i σ=some e→EntOk γ H w i e
 free:∀i e,look i σ=some e→∀b,blk γ i e b→Free H b
 fresh:∀i e,look i σ=some e→∀b,blk γ i e b→w0.heap.size≤b∨B b
 apart:∀i e j e' b,look i σ=some e→look j σ=some e'→blk γ i e b→blk γ j e' b→i=j
def blks (γ:Ids)(σ:Sg)(b:Nat):Prop:=∃i e,look i σ=some e∧blk γ i e b
def TmpOk (γ:Ids)(H:HF)(t:T)(tm:Array Value):Prop:=∀i a,look i t=some a→∃u,tm[i]?=some u∧Rep γ H a u
structure Cx where
 P:Program
 Λ:Amb
 ro:Option Nat
 w0:World
 H0:HF
 B:Nat→Prop
 N:Nat
 pin:List Nat
 g0:Ids
def Marked (w0:World)(γ:Ids)(σ:Sg)(w:World)(ms:List Nat):Prop:=
 ms.Nodup∧∀b,b∈ms→w.heap[b]?=some (.deferred (some []))∧w0.heap.size≤b∧¬blks γ σ b
structure St (X:Cx)(γ:Ids)(H:HF)(t:T)(σ:Sg)(a:Act)(w:World):Prop where
 lam:Lam X.Λ X.w0 X.B
 round:∀l,X.ro=some l→(∃r,X.w0.heap[l]?=some (.loop r))∧¬X.B l
 defers:∃ms:List Nat,a.defers=(ms.map fun b=>{target:=.collected b,args:=#[]})∧Marked X.w0 γ σ w ms
 size:a.tmps.size=X.N
 pinned:∀i,i∈X.pin→γ i=X.g0 i
 tmp:TmpOk γ H t a.tmps
 mem:Mem X.w0 X.H0 X.B γ H σ w
theorem aF {w:World}{b:Nat}{o:Obj}(h:w.heap[b]?=some o):b<w.heap.size:=(Array.getElem?_eq_some_iff.1 h).1
theorem cr {w:World}{b o:Nat}{v:Value}(h:w.cell? ⟨b,o,none⟩=some v):b<w.heap.size:=by
 unfold World.cell? at h
 split at h
 ·next hb=>exact aF hb
 ·cases h
theorem EntOk.lt {γ:Ids}{H:HF}{w:World}{i:Nat}{e:Ent}(h:EntOk γ H w i e){b:Nat}(hb:blk γ i e b):b<w.heap.size:=by
 cases e with
 |gone=>exact hb.elim
 |cells cs=>obtain⟨t,us,h1,_⟩:=h;cases hb;exact aF h1
 |cellsT t cs=>obtain⟨us,h1,_⟩:=h;cases hb;exact aF h1
 |arr k xs=>obtain⟨t,us,h1,_⟩:=h.2.2 hb.2;cases hb.1;exact aF h1
 |arrT t k xs=>obtain⟨us,h1,_⟩:=h.2.2 hb.2;cases hb.1;exact aF h1
 |mp ag ks vs=>obtain⟨es,c,us,h1,_⟩:=h;cases hb;exact aF h1
 |obj o=>cases hb;exact aF h
 |res ρ s=>exact ρ.lt h b hb
theorem EntOk.later {γ:Ids}{H H':HF}{w w':World}{i:Nat}{e:Ent}(h:EntOk γ H w i e)(hle:HLe H H')(hs:w.heap.size≤w'.heap.size)(hb:∀b,blk γ i e b→w'.heap[b]?=w.heap[b]?):EntOk γ H' w' i e:=by
 cases e with
 |gone=>trivial
 |cells cs=>
  obtain⟨t,us,h1,h2,h3⟩:=h
  exact⟨t,us,(hb _ rfl).trans h1,h2,fun j a u x y=>(h3 j a u x y).mono hle⟩
 |cellsT t cs=>
  obtain⟨us,h1,h2,h3⟩:=h
  exact⟨us,(hb _ rfl).trans h1,h2,fun j a u x y=>(h3 j a u x y).mono hle⟩
 |arr k xs=>
  refine⟨h.1,h.2.1,fun hr=>?_⟩
  obtain⟨t,us,h1,h2,h3⟩:=h.2.2 hr
  exact⟨t,us,(hb _ ⟨rfl,hr⟩).trans h1,h2,fun j l cs a u x y z=>(h3 j l cs a u x y z).mono hle⟩
 |arrT t k xs=>
  refine⟨h.1,h.2.1,fun hr=>?_⟩
  obtain⟨us,h1,h2,h3⟩:=h.2.2 hr
  exact⟨us,(hb _ ⟨rfl,hr⟩).trans h1,h2,fun j l cs a u x y z=>(h3 j l cs a u x y z).mono hle⟩
 |mp ag ks vs=>
  obtain⟨es,c,us,h1,h2⟩:=h
  exact⟨es,c,us,(hb _ rfl).trans h1,h2.mono hle⟩
 |obj o=>exact(hb _ rfl).trans h
 |res ρ s=>exact ρ.later h hle hs hb
def aJ (i:Nat):Ent→Bool
 |.cells cs=>cs.any (aP i)
 |.cellsT _ cs=>cs.any (aP i)
 |_=>false
theorem co {γ γ':Ids}{i:Nat}(h:γ i=γ' i)(e:Ent):blk γ i e=blk γ' i e:=by
 funext b;cases e<;>simp[blk,h]
theorem EntOk.agree {γ γ':Ids}{H:HF}{w:World}{i:Nat}{e:Ent}(h:EntOk γ H w i e)(hi:γ i=γ' i)(hg:∀j,aJ j e=true→γ j=γ' j):EntOk γ' H w i e:=by
 cases e with
 |gone=>trivial
 |cells cs=>
  simp only[EntOk,←hi]at h ⊢
  obtain⟨t,us,h1,h2,h3⟩:=h
  exact⟨t,us,h1,h2,fun j a u x y=>(h3 j a u x y).agree fun l hl=>hg l (by simp only[aJ,List.any_eq_true];exact⟨a,aQ x,hl⟩)⟩
 |cellsT t cs=>
  simp only[EntOk,←hi]at h ⊢
  obtain⟨us,h1,h2,h3⟩:=h
  exact⟨us,h1,h2,fun j a u x y=>(h3 j a u x y).agree fun l hl=>hg l (by simp only[aJ,List.any_eq_true];exact⟨a,aQ x,hl⟩)⟩
 |arr k xs=>simpa only[EntOk,←hi]using h
 |arrT t k xs=>simpa only[EntOk,←hi]using h
 |mp ag ks vs=>simpa only[EntOk,←hi]using h
 |obj o=>simpa only[EntOk,←hi]using h
 |res ρ s=>simpa only[EntOk,←hi]using h
theorem Free.later {H H':HF}{b n:Nat}{C:Nat→Prop}(h:Free H b)(k:HNew n C H H')(hn:b<n)(hc:¬C b):Free H' b:=by
 refine⟨fun o=>?_,?_⟩
 ·cases hx:H'.c b o with
  |none=>rfl
  |some v=>
   rcases k.c b o v hx with h1|h1|h1
   ·rw[h.c]at h1;cases h1
   ·omega
   ·exact absurd h1 hc
 ·cases hx:H'.m b with
  |none=>rfl
  |some v=>
   rcases k.m b v hx with h1|h1|h1
   ·rw[h.m]at h1;cases h1
   ·omega
   ·exact absurd h1 hc
theorem Mem.wk {w0 w:World}{H0:HF}{B:Nat→Prop}{γ:Ids}{H:HF}{σ σ':Sg}(h:Mem w0 H0 B γ H σ w)(k:Wk σ' σ):Mem w0 H0 B γ H σ' w:=
 ⟨h.keep,h.hle,h.hnew,h.hok,fun i e hi=>h.ent i e (k i e hi),fun i e hi=>h.free i e (k i e hi),fun i e hi=>h.fresh i e (k i e hi),fun i e j e' b hi hj=>h.apart i e j e' b (k i e hi) (k j e' hj)⟩
theorem TmpOk.wk {γ:Ids}{H:HF}{t t':T}{tm:Array Value}(h:TmpOk γ H t tm)(k:Wk t' t):TmpOk γ H t' tm:=fun i a hi=>h i a (k i a hi)
theorem TmpOk.mono {γ:Ids}{H H':HF}(hle:HLe H H'){t:T}{tm:Array Value}(h:TmpOk γ H t tm):TmpOk γ H' t tm:=fun i a hi=>let⟨u,hu,r⟩:=h i a hi;⟨u,hu,r.mono hle⟩
theorem blks.wk {γ:Ids}{σ σ':Sg}(k:Wk σ' σ){b:Nat}(h:blks γ σ' b):blks γ σ b:=let⟨i,e,hi,hb⟩:=h;⟨i,e,k i e hi,hb⟩
theorem Marked.wk {w0 w:World}{γ:Ids}{σ σ':Sg}{ms:List Nat}(h:Marked w0 γ σ w ms)(k:Wk σ' σ):Marked w0 γ σ' w ms:=⟨h.1,fun b hb=>⟨(h.2 b hb).1,(h.2 b hb).2.1,fun x=>(h.2 b hb).2.2 (x.wk k)⟩⟩
theorem St.wk {X:Cx}{γ:Ids}{H:HF}{t t':T}{σ σ':Sg}{a:Act}{w:World}(s:St X γ H t σ a w)(ht:Wk t' t)(hs:Wk σ' σ):St X γ H t' σ' a w:=
 ⟨s.lam,s.round,let⟨ms,h1,h2⟩:=s.defers;⟨ms,h1,h2.wk hs⟩,s.size,s.pinned,s.tmp.wk ht,s.mem.wk hs⟩
theorem Keeps.trans {w0 w w':World}{B C:Nat→Prop}(h:Keeps w0 B w)(k:Keeps w C w')(hC:∀b,C b→w0.heap.size≤b∨B b):Keeps w0 B w':=
 ⟨k.os.trans h.os,k.tape.trans h.tape,k.output.trans h.output,Nat.le_trans h.size k.size,fun i hi hb=>(k.block i (Nat.lt_of_lt_of_le hi h.size) fun x=>(hC i x).elim (fun y=>by omega) hb).trans (h.block i hi hb)⟩
theorem HNew.trans {n m:Nat}{B C:Nat→Prop}{H H' H'':HF}(h:HNew n B H H')(k:HNew m C H' H'')(hm:n≤m)(hC:∀b,C b→n≤b∨B b):HNew n B H H'':=
 ⟨fun b o v hv=>by
  rcases k.c b o v hv with h1|h1|h1
  ·exact h.c b o v h1
  ·exact .inr (.inl (by omega))
  ·exact .inr (hC b h1),
  fun b v hv=>by
   rcases k.m b v hv with h1|h1|h1
   ·exact h.m b v h1
   ·exact .inr (.inl (by omega))
   ·exact .inr (hC b h1)⟩
theorem Mem.join {w0 w w':World}{H0 H H':HF}{B C:Nat→Prop}{γ γ':Ids}{σ σ' σr:Sg}(h:Mem w0 H0 B γ H σ w)(k:Mem w H C γ' H' σ' w')
 (hC:∀b,C b→∃i e,look i σ=some e∧look i σr=none∧blk γ i e b)
 (hr:Wk σr σ)(hd:∀i e,look i σr=some e→look i σ'=none)(hg:∀i e,look i σr=some e→γ i=γ' i∧∀j,aJ j e=true→γ j=γ' j):
 Mem w0 H0 B γ' H' (σ'++σr) w':=by
 have hCB:∀b,C b→w0.heap.size≤b∨B b:=fun b hb=>let⟨i,e,h1,_,h3⟩:=hC b hb;h.fresh i e h1 b h3
 have hrC:∀i e b,look i σr=some e→blk γ i e b→¬C b:=fun i e b hi hb hc=>by
  obtain⟨j,f,h1,h2,h3⟩:=hC b hc
  have:=h.apart i e j f b (hr i e hi) h1 hb h3
  subst this;rw[hi]at h2;cases h2
 have cas:∀i e,look i (σ'++σr)=some e→look i σ'=some e∨(look i σr=some e∧look i σ'=none):=fun i e hi=>by
  rw[dB]at hi
  cases hx:look i σ' with
  |some f=>rw[hx]at hi;simp only[Option.some_or,Option.or_some]at hi;exact .inl hi
  |none=>rw[hx]at hi;simp only[Option.none_or]at hi;exact .inr ⟨hi,rfl⟩
 have hlt:∀i e b,look i σr=some e→blk γ i e b→b<w.heap.size:=fun i e b hi hb=>(h.ent i e (hr i e hi)).lt hb
 refine⟨h.keep.trans k.keep hCB,h.hle.trans k.hle,h.hnew.trans k.hnew h.keep.size hCB,k.hok,fun i e hi=>?_,fun i e hi b hb=>?_,fun i e hi b hb=>?_,fun i e j e' b hi hj hb hb'=>?_⟩
 ·rcases cas i e hi with h1|⟨h1,_⟩
  ·exact k.ent i e h1
  ·exact((h.ent i e (hr i e h1)).later k.hle k.keep.size fun b hb=>k.keep.block b (hlt i e b h1 hb) (hrC i e b h1 hb)).agree (hg i e h1).1 (hg i e h1).2
 ·rcases cas i e hi with h1|⟨h1,_⟩
  ·exact k.free i e h1 b hb
  ·rw[←co (hg i e h1).1]at hb
   exact(h.free i e (hr i e h1) b hb).later k.hnew (hlt i e b h1 hb) (hrC i e b h1 hb)
 ·rcases cas i e hi with h1|⟨h1,_⟩
  ·rcases k.fresh i e h1 b hb with h2|h2
   ·exact .inl (Nat.le_trans h.keep.size h2)
   ·exact hCB b h2
  ·rw[←co (hg i e h1).1]at hb
   exact h.fresh i e (hr i e h1) b hb
 ·rcases cas i e hi with h1|⟨h1,h1'⟩<;>rcases cas j e' hj with h2|⟨h2,h2'⟩
  ·exact k.apart i e j e' b h1 h2 hb hb'
  ·exfalso
   rw[←co (hg j e' h2).1]at hb'
   rcases k.fresh i e h1 b hb with h3|h3
   ·have:=hlt j e' b h2 hb';omega
   ·exact hrC j e' b h2 hb' h3
  ·exfalso
   rw[←co (hg i e h1).1]at hb
   rcases k.fresh j e' h2 b hb' with h3|h3
   ·have:=hlt i e b h1 hb;omega
   ·exact hrC i e b h1 hb h3
  ·rw[←co (hg i e h1).1]at hb
   rw[←co (hg j e' h2).1]at hb'
   exact h.apart i e j e' b (hr i e h1) (hr j e' h2) hb hb'
theorem Marked.join {w0 w w':World}{H0 H H':HF}{B C:Nat→Prop}{γ γ':Ids}{σ σ' σr:Sg}{ms:List Nat}(m:Marked w0 γ σ w ms)(h:Mem w0 H0 B γ H σ w)(k:Mem w H C γ' H' σ' w')
 (hC:∀b,C b→∃i e,look i σ=some e∧look i σr=none∧blk γ i e b)
 (hr:Wk σr σ)(hd:∀i e,look i σr=some e→look i σ'=none)(hg:∀i e,look i σr=some e→γ i=γ' i∧∀j,aJ j e=true→γ j=γ' j):Marked w0 γ' (σ'++σr) w' ms:=by
 refine⟨m.1,fun b hb=>?_⟩
 obtain⟨m1,m2,m3⟩:=m.2 b hb
 have hnC:¬C b:=fun hc=>by obtain⟨i,e,h1,_,h3⟩:=hC b hc;exact m3 ⟨i,e,h1,h3⟩
 refine⟨(k.keep.block b (aF m1) hnC).trans m1,m2,?_⟩
 rintro⟨i,e,hi,hbk⟩
 rw[dB]at hi
 cases hx:look i σ' with
 |some f=>
  rw[hx,Option.some_or]at hi
  obtain rfl:=Option.some.inj hi
  rcases k.fresh i f hx b hbk with h1|h1
  ·have:=aF m1;omega
  ·exact hnC h1
 |none=>
  rw[hx]at hi;simp only[Option.none_or]at hi
  rw[←co (hg i e hi).1]at hbk
  exact m3 ⟨i,e,hr i e hi,hbk⟩
theorem Mem.self {w0 w:World}{H0 H:HF}{B:Nat→Prop}{γ:Ids}{σ:Sg}(h:Mem w0 H0 B γ H σ w):Mem w H (blks γ σ) γ H σ w:=
 ⟨Keeps.refl _ _,HLe.refl _,HNew.refl _ _ _,h.hok,h.ent,h.free,fun i e hi b hb=>.inr ⟨i,e,hi,hb⟩,h.apart⟩
theorem Mem.refl {w0 w:World}{H0 H:HF}{B:Nat→Prop}{γ:Ids}{σ:Sg}(h:Mem w0 H0 B γ H σ w)(γ':Ids):Mem w H (fun _=>False) γ' H [] w:=
 ⟨Keeps.refl _ _,HLe.refl _,HNew.refl _ _ _,h.hok,fun i e h=>by simp[look]at h,fun i e h=>by simp[look]at h,fun i e h=>by simp[look]at h,fun i e j e' b h=>by simp[look]at h⟩
theorem EntOk.drew {γ:Ids}{H:HF}{w:World}{i:Nat}{e:Ent}(h:EntOk γ H w i e):EntOk γ H w.drew i e:=h.later (HLe.refl _) (Nat.le_refl _) fun _ _=>rfl
theorem Mem.drew {w0 w:World}{H0 H:HF}{B:Nat→Prop}{γ:Ids}{σ:Sg}(h:Mem w0 H0 B γ H σ w):Mem w0 H0 B γ H σ w.drew:=
 ⟨⟨h.keep.os,h.keep.tape,h.keep.output,h.keep.size,h.keep.block⟩,h.hle,h.hnew,⟨h.hok.c,h.hok.m⟩,fun i e hi=>(h.ent i e hi).drew,h.free,h.fresh,h.apart⟩
end Go.Gv
end
section
namespace Go.Gv
open Go.RowKit
abbrev Qt:=Exit→T→Sg→Prop
def pn (X:Cx)(Q:Qt)(e:Exit)(a:Act)(w:World):Prop:=∃γ H t σ,St X γ H t σ a w∧Q e t σ
def WJ (X:Cx)(c:Code)(t:T)(σ:Sg)(Q:Qt):Prop:=∀γ H a w,St X γ H t σ a w→c.wpIn (Fr X.ro) 0 X.P (pn X Q) a w
def LJ (X:Cx)(all:Array Oper)(k:Nat)(al:List Oper)(t:T)(σ:Sg)(Q:T→Sg→Prop):Prop:=
 (∀j,all[k+j]?=al[j]?)→∀Q':Exit→Act→World→Prop,(∀γ H t σ a w,St X γ H t σ a w→Q t σ→Q' .normal a w)→
  ∀γ H a w,St X γ H t σ a w→wpOpsIn (Fr X.ro) 0 X.P all Q' (List.range' k al.length) a w
def OpJ (X:Cx)(o:Oper)(t:T)(σ:Sg)(K:T→Sg→Prop):Prop:=
 ∀γ H a w,St X γ H t σ a w→
  ∀(next:Act→World→Prop)(Q':Exit→Act→World→Prop),(∀γ H t σ a' w',St X γ H t σ a' w'→K t σ→next a' w')→
   o.uponIn (Fr X.ro) 0 X.P a next Q' ((o.semAt X.ro a.eval).run X.P w)
def SJ (X:Cx)(t:T)(σ:Sg)(t':T)(σ':Sg):Prop:=∀γ H a w,St X γ H t σ a w→∃γ' H',St X γ' H' t' σ' a w
section
variable {X:Cx} {t t':T} {σ σ':Sg}
theorem WJ.wk {c:Code}{Q:Qt}(ht:Wk t' t)(hs:Wk σ' σ)(h:WJ X c t' σ' Q):WJ X c t σ Q:=fun γ H a w s=>h γ H a w (s.wk ht hs)
theorem WJ.mono {c:Code}{Q Q':Qt}(h:WJ X c t σ Q)(hq:∀e t σ,Q e t σ→Q' e t σ):WJ X c t σ Q':=
 fun γ H a w s=>wpIn_mono (h γ H a w s) fun e a w ⟨γ,H,t,σ,s,q⟩=>⟨γ,H,t,σ,s,hq e t σ q⟩
theorem LJ.mono {all:Array Oper}{k:Nat}{al:List Oper}{Q Q':T→Sg→Prop}(h:LJ X all k al t σ Q)(hq:∀t σ,Q t σ→Q' t σ):LJ X all k al t σ Q':=
 fun ha R hR=>h ha R fun γ H t σ a w s q=>hR γ H t σ a w s (hq t σ q)
theorem WJ.shift {c:Code}{Q:Qt}(h:SJ X t σ t' σ')(k:WJ X c t' σ' Q):WJ X c t σ Q:=fun γ H a w s=>let⟨γ',H',s'⟩:=h γ H a w s;k γ' H' a w s'
theorem LJ.shift {all:Array Oper}{kk:Nat}{al:List Oper}{Q:T→Sg→Prop}(h:SJ X t σ t' σ')(k:LJ X all kk al t' σ' Q):LJ X all kk al t σ Q:=
 fun ha Q' hq γ H a w s=>let⟨γ',H',s'⟩:=h γ H a w s;k ha Q' hq γ' H' a w s'
theorem OpJ.shift {o:Oper}{K:T→Sg→Prop}(h:SJ X t σ t' σ')(k:OpJ X o t' σ' K):OpJ X o t σ K:=fun γ H a w s=>let⟨γ',H',s'⟩:=h γ H a w s;k γ' H' a w s'
theorem SJ.trans {t'':T}{σ'':Sg}(h:SJ X t σ t' σ')(k:SJ X t' σ' t'' σ''):SJ X t σ t'' σ'':=fun γ H a w s=>let⟨γ',H',s'⟩:=h γ H a w s;k γ' H' a w s'
theorem SJ.wk (ht:Wk t' t)(hs:Wk σ' σ):SJ X t σ t' σ':=fun γ H a w s=>⟨γ,H,s.wk ht hs⟩
theorem OpJ.mono {o:Oper}{K K':T→Sg→Prop}(h:OpJ X o t σ K)(hk:∀t σ,K t σ→K' t σ):OpJ X o t σ K':=fun γ H a w s next Q' hn=>h γ H a w s next Q' fun γ H t σ a w s k=>hn γ H t σ a w s (hk t σ k)
theorem WJ.fact {c:Code}{Q:Qt}{p:Prop}(h:∀γ H a w,St X γ H t σ a w→p)(k:p→WJ X c t σ Q):WJ X c t σ Q:=fun γ H a w s=>k (h γ H a w s) γ H a w s
theorem OpJ.fact {o:Oper}{K:T→Sg→Prop}{p:Prop}(h:∀γ H a w,St X γ H t σ a w→p)(k:p→OpJ X o t σ K):OpJ X o t σ K:=fun γ H a w s=>k (h γ H a w s) γ H a w s
def Thn (K:T→Sg→Prop)(Q:Qt):Qt
 |.normal,t,σ=>K t σ
 |e,t,σ=>Q e t σ
theorem WJ.seq {x y:Code}{Q:Qt}(h:WJ X x t σ (Thn (fun t σ=>WJ X y t σ Q) Q)):WJ X (.seq x y) t σ Q:=
 fun γ H a w s=>wpIn_seq (wpIn_mono (h γ H a w s) fun e a w ⟨γ,H,t,σ,s,q⟩=>by
  cases e with
  |normal=>exact q γ H a w s
  |exit id=>exact⟨γ,H,t,σ,s,q⟩
  |goto l=>exact⟨γ,H,t,σ,s,q⟩
  |ret=>exact⟨γ,H,t,σ,s,q⟩
  |panic ch=>exact⟨γ,H,t,σ,s,q⟩
  |outgrown=>exact⟨γ,H,t,σ,s,q⟩)
theorem WJ.skip {Q:Qt}(h:Q .normal t σ):WJ X .skip t σ Q:=fun γ H _ _ s=>wpIn_skip ⟨γ,H,t,σ,s,h⟩
theorem WJ.ret {Q:Qt}(h:Q .ret t σ):WJ X .ret t σ Q:=fun γ H _ _ s=>wpIn_ret ⟨γ,H,t,σ,s,h⟩
theorem WJ.exit {id:Nat}{Q:Qt}(h:Q (.exit id) t σ):WJ X (.exit id) t σ Q:=fun γ H _ _ s=>wpIn_exit ⟨γ,H,t,σ,s,h⟩
theorem WJ.goto {l:Nat}{Q:Qt}(h:Q (.goto l) t σ):WJ X (.goto l) t σ Q:=fun γ H _ _ s=>wpIn_goto ⟨γ,H,t,σ,s,h⟩
def Blk (id:Nat)(Q:Qt):Qt
 |.exit id',t,σ=>match Nat.beq id' id with|true=>Q .normal t σ|false=>Q (.exit id') t σ
 |e,t,σ=>Q e t σ
theorem WJ.block {id:Nat}{c:Code}{Q:Qt}(h:WJ X c t σ (Blk id Q)):WJ X (.block id c) t σ Q:=
 fun γ H a w s=>wpIn_block (wpIn_mono (h γ H a w s) fun e a w ⟨γ,H,t,σ,s,q⟩=>by
  cases e with
  |normal=>exact⟨γ,H,t,σ,s,q⟩
  |exit id'=>
   simp only[Blk]at q
   simp only[Exit.inBlock]
   by_cases e:id'=id
   ·rw[if_pos e];subst e;simp only[Nat.beq_refl]at q;exact⟨γ,H,t,σ,s,q⟩
   ·rw[if_neg e]
    have:Nat.beq id' id=false:=by rw[←Bool.not_eq_true,Nat.beq_eq];exact e
    simp only[this]at q;exact⟨γ,H,t,σ,s,q⟩
  |goto l=>exact⟨γ,H,t,σ,s,q⟩
  |ret=>exact⟨γ,H,t,σ,s,q⟩
  |panic ch=>exact⟨γ,H,t,σ,s,q⟩
  |outgrown=>exact⟨γ,H,t,σ,s,q⟩)
theorem rE {F:Fence}{n:Nat}{P:Program}{c:Code}{Q:Exit→Act→World→Prop}{a:Act}{w:World}(I:Nat→Act→World→Prop)(m:Nat)(h₀:I m a w)
 (round:∀m a w,I m a w→c.wpIn F n P (Exit.then (fun a' w'=>∃m',m'<m∧I m' a' w') Q) a w):(Code.loop c).wpIn F n P Q a w:=by
 intro b k cs hro hb hr
 have key:∀j a w,I j a w→
  ∃e a' w',Q e a' w'∧ArrivesIn (Machine.fenced P F) P (lone (b.atR a (.code c::.inLoop c::k)) cs w) b k cs e a' w':=by
  intro j
  induction j using Nat.strongRecOn with
  |_ j ih=>
   intro a w hI
   obtain⟨e,a₁,w₁,hq,harr⟩:=round j a w hI b (.inLoop c::k) cs hro hb hr
   cases e with
   |normal=>
    obtain⟨m',hlt,hI₁⟩:=hq
    obtain⟨e₂,a₂,w₂,hq₂,harr₂⟩:=ih m' hlt a₁ w₁ hI₁
    exact⟨e₂,a₂,w₂,hq₂,.of_steps (StepsIn.trans harr (.one (fenced_calm hb hr rfl) stepR_inLoop)) harr₂⟩
   |exit id=>exact⟨_,a₁,w₁,hq,.pass (x:=.inLoop c) rfl (fun _ _=>.inl (by simp)) harr⟩
   |goto l=>exact⟨_,a₁,w₁,hq,.pass (x:=.inLoop c) rfl (fun _ _=>.inl (by simp)) harr⟩
   |ret=>exact⟨_,a₁,w₁,hq,.pass (x:=.inLoop c) rfl (fun _ _=>.inl (by simp)) harr⟩
   |panic ch=>exact⟨_,a₁,w₁,hq,.pass (x:=.inLoop c) rfl (fun _ _=>.inl (by simp)) harr⟩
   |outgrown=>exact⟨_,a₁,w₁,hq,.pass (x:=.inLoop c) rfl (fun _ _=>.inl (by simp)) harr⟩
 obtain⟨e,a',w',hq,harr⟩:=key m a w h₀
 exact⟨e,a',w',hq,.of_steps (.one (fenced_calm hb hr rfl) stepR_loop) harr⟩
theorem WJ.loop {c:Code}{Q:Qt}(M:Nat→T→Sg→Prop)(n:Nat)(h0:M n t σ)
 (round:∀n t σ,M n t σ→WJ X c t σ (Thn (fun t σ=>∃m,m<n∧M m t σ) Q)):WJ X (.loop c) t σ Q:=by
 intro γ H a w s
 refine rE (fun m a w=>∃γ H t σ,St X γ H t σ a w∧M m t σ) n ⟨γ,H,t,σ,s,h0⟩ ?_
 rintro m a w ⟨γ,H,t,σ,s,hm⟩
 refine wpIn_mono (round m t σ hm γ H a w s) ?_
 rintro e a w ⟨γ,H,t,σ,s,q⟩
 cases e with
 |normal=>obtain⟨m',hlt,q⟩:=q;exact⟨m',hlt,γ,H,t,σ,s,q⟩
 |exit id=>exact⟨γ,H,t,σ,s,q⟩
 |goto l=>exact⟨γ,H,t,σ,s,q⟩
 |ret=>exact⟨γ,H,t,σ,s,q⟩
 |panic ch=>exact⟨γ,H,t,σ,s,q⟩
 |outgrown=>exact⟨γ,H,t,σ,s,q⟩
end
def fH (x:Value):AV:=match x.oneCell' with
 |true=>.d (.v x)
 |false=>.junk
def bo:Value→AV
 |.agg cs=>.agg (cs.toList.map fH)
 |.tuple _=>.junk
 |x=>.d (.v x)
def ge (t:T):Operand→Option AV
 |.tmp i=>look i t
 |.const x=>some (bo x)
 |.func f=>some (.d (.fn f []))
 |.global _=>none
theorem hX {γ:Ids}{H:HF}(x:Value):Rep γ H (fH x) x:=by
 unfold fH
 split
 ·next h=>exact .d _ _ (.v x h)
 ·exact .junk x
theorem bQ (γ:Ids)(H:HF)(x:Value):Rep γ H (bo x) x:=by
 cases x with
 |agg cs=>
  have:=Rep.agg (γ:=γ) (H:=H) (cs.toList.map fH) cs.toList (by simp) (fun j a u h1 h2=>by
   rw[List.getElem?_map,h2]at h1
   simp only[Option.map_some,Option.some.injEq]at h1
   subst h1
   exact hX u)
  simpa[bo]using this
 |tuple vs=>exact .junk _
 |_=>exact .d _ _ (.v _ rfl)
theorem aV {γ:Ids}{H:HF}{x u:Value}(h:Rep γ H (.d (.v x)) u):u=x:=by
 cases h with
 |d _ _ h=>cases h;rfl
theorem eS {γ:Ids}{H:HF}{x:D}{u:Value}(h:Rep γ H (.d x) u):RepD H x u:=by cases h;assumption
theorem aT {γ:Ids}{H:HF}{t:T}{a:Act}(ht:TmpOk γ H t a.tmps){o:Operand}{x:AV}(h:ge t o=some x):Rep γ H x (a.eval o):=by
 cases o with
 |tmp i=>
  obtain⟨u,hu,r⟩:=ht i x h
  simp only[Act.eval,Array.getD_eq_getD_getElem?,hu,Option.getD_some]
  exact r
 |const v=>simp only[ge,Option.some.injEq]at h;subst h;exact bQ γ H v
 |func f=>simp only[ge,Option.some.injEq]at h;subst h;exact .d _ _ (.fn f [] [] rfl (fun j a u h1=>by simp at h1))
 |global g=>simp[ge]at h
def putT (d:Option Nat)(x:AV)(t:T):T:=match d with|some d=>(d,x)::t|none=>t
def dOk (d:Option Nat)(N:Nat):Bool:=match d with|some d=>Nat.blt d N|none=>true
theorem yQ (a:Act)(d:Option Nat)(v:Value):(a.put d v).tmps.size=a.tmps.size:=by cases d<;>simp[Act.put]
theorem ub (a:Act)(d:Option Nat)(v:Value):(a.put d v).defers=a.defers:=by cases d<;>simp[Act.put]
theorem TmpOk.put {γ:Ids}{H:HF}{t:T}{a:Act}{N:Nat}(ht:TmpOk γ H t a.tmps)(hN:a.tmps.size=N){d:Option Nat}(hd:dOk d N=true){x:AV}{v:Value}(r:Rep γ H x v):
 TmpOk γ H (putT d x t) (a.put d v).tmps:=by
 cases d with
 |none=>exact ht
 |some d=>
  have hlt:d<a.tmps.size:=by simp only[dOk,Nat.blt_eq]at hd;omega
  intro i b hb
  simp only[putT,ae]at hb
  simp only[Act.put]
  split at hb
  ·next e=>
   subst e
   simp only[Option.some.injEq]at hb
   subst hb
   exact⟨v,by simp[hlt],r⟩
  ·next e=>
   obtain⟨u,hu,r'⟩:=ht i b hb
   exact⟨u,by rw[Array.getElem?_setIfInBounds,if_neg (fun h=>e h.symm)];exact hu,r'⟩
theorem St.step {X:Cx}{γ γ':Ids}{H H':HF}{t:T}{σ σ' σr:Sg}{a:Act}{w w':World}{C:Nat→Prop}(s:St X γ H t σ a w)(k:Mem w H C γ' H' σ' w')
 (hC:∀b,C b→∃i e,look i σ=some e∧look i σr=none∧blk γ i e b)(hr:Wk σr σ)(hd:∀i e,look i σr=some e→look i σ'=none)
 (hg:∀i e,look i σr=some e→γ i=γ' i∧∀j,aJ j e=true→γ j=γ' j)(hp:∀i,i∈X.pin→γ i=γ' i)
 (ht:∀i x,look i t=some x→∀j,aP j x=true→γ j=γ' j){d:Option Nat}{V:AV}{v:Value}(hN:dOk d X.N=true)(r:Rep γ' H' V v):
 St X γ' H' (putT d V t) (σ'++σr) (a.put d v) w':=by
 refine⟨s.lam,s.round,?_,?_,fun i hi=>(hp i hi).symm.trans (s.pinned i hi),?_,s.mem.join k hC hr hd hg⟩
 ·obtain⟨ms,h1,h2⟩:=s.defers
  exact⟨ms,by rw[ub];exact h1,h2.join s.mem k hC hr hd hg⟩
 ·rw[yQ];exact s.size
 ·refine TmpOk.put (N:=X.N) (fun i x hi=>?_) s.size hN r
  obtain⟨u,hu,hr⟩:=s.tmp i x hi
  exact⟨u,hu,(hr.mono k.hle).agree (ht i x hi)⟩
theorem St.calm {X:Cx}{γ γ':Ids}{H H':HF}{t:T}{σ σ':Sg}{a:Act}{w w':World}(s:St X γ H t σ a w)(k:Mem w H (fun _=>False) γ' H' σ' w')
 {d:Option Nat}{V:AV}{v:Value}(hN:dOk d X.N=true)(r:Rep γ H' V v):St X γ H' (putT d V t) σ (a.put d v) w':=by
 have k':Mem w H (fun _=>False) γ H' [] w':=⟨k.keep,k.hle,k.hnew,k.hok,fun i e h=>by simp[look]at h,fun i e h=>by simp[look]at h,fun i e h=>by simp[look]at h,fun i e j e' b h=>by simp[look]at h⟩
 exact s.step (σ':=[]) (σr:=σ) k' (fun _ h=>h.elim) (Wk.refl σ) (fun _ _ _=>rfl) (fun _ _ _=>⟨rfl,fun _ _=>rfl⟩) (fun _ _=>rfl) (fun _ _ _ _ _=>rfl) hN r
theorem WJ.region {X:Cx}{id:Nat}{ops:Array Oper}{t:T}{σ:Sg}{Q:Qt}(h:LJ X ops 0 ops.toList t σ (Q .normal)):WJ X (.region id ops false) t σ Q:=by
 intro γ H a w s
 refine wpIn_region ?_
 have e:List.range ops.size=List.range' 0 ops.toList.length:=by simp[List.range_eq_range']
 rw[e]
 exact h (fun j=>by simp) _ (fun γ H t σ a w s q=>⟨γ,H,t,σ,s,q⟩) γ H a w s
section
variable {X:Cx} {t:T} {σ:Sg}
theorem LJ.done {all:Array Oper}{k:Nat}{Q:T→Sg→Prop}(h:Q t σ):LJ X all k [] t σ Q:=fun _ Q' hq γ H a w s=>hq γ H t σ a w s h
theorem pz {all:Array Oper}{k:Nat}{o:Oper}{al:List Oper}(h:∀j,all[k+j]?=(o::al)[j]?):all[k]?=some o∧∀j,all[k+1+j]?=al[j]?:=
 ⟨by simpa using h 0,fun j=>by have:=h (j+1);rw[show k+1+j=k+(j+1)from by omega];simpa using this⟩
theorem LJ.op {all:Array Oper}{k:Nat}{o:Oper}{al:List Oper}{Q:T→Sg→Prop}(hg:o.guard=none)
 (h:OpJ X o t σ (fun t σ=>LJ X all (k+1) al t σ Q)):LJ X all k (o::al) t σ Q:=by
 intro ha Q' hq γ H a w s
 obtain⟨h0,h1⟩:=pz ha
 simp only[List.length_cons,List.range'_succ]
 simp only[wpOpsIn,h0]
 have hw:Region.wanted o (yielded all a.tmps)=true:=by simp[Region.wanted,hg]
 rw[if_pos hw]
 exact⟨fun _ _=>trivial,h γ H a w s _ _ fun γ H t σ a' w' s' k'=>k' h1 Q' hq γ H a' w' s'⟩
theorem cC {γ:Ids}{H:HF}:Rep γ H (.tup []) undef:=.tup [] [] rfl (fun j a u h=>by simp at h)
theorem cP {γ:Ids}{H:HF}{u:Value}(r:Rep γ H (.tup []) u):u=undef:=by
 cases r with
 |tup cs us hl _=>obtain rfl:=List.length_eq_zero_iff.1 hl;rfl
theorem LJ.guard {all:Array Oper}{k:Nat}{o:Oper}{al:List Oper}{Q:T→Sg→Prop}{j:Nat}{b:Bool}{d:Nat}(hg:o.guard=some (j,b))
 (hd:((all[j]?).bind (·.dst))=some d)(hN:dOk o.dst X.N=true)
 (h:match look d t with
  |some (.d (.v (.bool b')))=>(b'=b→OpJ X o t σ (fun t σ=>LJ X all (k+1) al t σ Q))∧(b'≠b→LJ X all (k+1) al (putT o.dst (.tup []) t) σ Q)
  |some (.tup [])=>LJ X all (k+1) al (putT o.dst (.tup []) t) σ Q
  |_=>False):LJ X all k (o::al) t σ Q:=by
 intro ha Q' hq γ H a w s
 obtain⟨h0,h1⟩:=pz ha
 simp only[List.length_cons,List.range'_succ]
 simp only[wpOpsIn,h0]
 have skip:LJ X all (k+1) al (putT o.dst (.tup []) t) σ Q→wpOpsIn (Fr X.ro) 0 X.P all Q' (List.range' (k+1) al.length) (a.put o.dst undef) w:=fun h=>
  h h1 Q' hq γ H _ w (s.calm (s.mem.refl γ) hN cC)
 split at h
 ·next b' hb=>
  obtain⟨u,hu,r⟩:=s.tmp d _ hb
  obtain rfl:=aV r
  by_cases e:b'=b
  ·have hw:Region.wanted o (yielded all a.tmps)=true:=by simp[Region.wanted,hg,yielded,hd,hu,e]
   rw[if_pos hw]
   exact⟨fun _ _=>trivial,h.1 e γ H a w s _ _ fun γ H t σ a' w' s' k'=>k' h1 Q' hq γ H a' w' s'⟩
  ·have hw:Region.wanted o (yielded all a.tmps)=false:=by simp[Region.wanted,hg,yielded,hd,hu];exact e
   simp only[hw,Bool.false_eq_true,if_false]
   exact⟨fun _ _=>trivial,skip (h.2 e)⟩
 ·next hb=>
  obtain⟨u,hu,r⟩:=s.tmp d _ hb
  obtain rfl:=cP r
  have hw:Region.wanted o (yielded all a.tmps)=false:=by simp[Region.wanted,hg,yielded,hd,hu,undef]
  simp only[hw,Bool.false_eq_true,if_false]
  exact⟨fun _ _=>trivial,skip h⟩
 ·exact h.elim
theorem SJ.view (i:Nat){x y:AV}(hi:look i t=some x)(h:∀γ H u,Rep γ H x u→Rep γ H y u):SJ X t σ ((i,y)::t) σ:=fun γ H a w s=>⟨γ,H,s.lam,s.round,s.defers,s.size,s.pinned,fun j b hj=>by
 rw[ae]at hj
 split at hj
 ·next e=>subst e;simp only[Option.some.injEq]at hj;subst hj;obtain⟨u,hu,r⟩:=s.tmp _ _ hi;exact⟨u,hu,h γ H u r⟩
 ·exact s.tmp j b hj,s.mem⟩
end
theorem aG {ro:Option Nat}{ρ:Operand→Value}{o:Oper}(h:∀c,o.op≠ .defer c):o.semAt ro ρ=execOp ρ o:=by
 cases ro with
 |none=>rfl
 |some l=>unfold Oper.semAt;split<;>simp_all
def QJ (X:Cx)(o:Oper)(t:T)(σ:Sg)(V:AV):Prop:=
 ∀(γ:Ids)(H:HF)(a:Act)(w:World),Lam X.Λ X.w0 X.B→(∀x,x∈o.op.operands→∀v,ge t x=some v→Rep γ H v (a.eval x))→Mem X.w0 X.H0 X.B γ H σ w→
  ∀(next:Act→World→Prop)(Q':Exit→Act→World→Prop),(∀v γ' σ' H' w',Mem w H (fun _=>False) γ' H' σ' w'→Rep γ H' V v→next (a.put o.dst v) w')→
   o.uponIn (Fr X.ro) 0 X.P a next Q' ((o.semAt X.ro a.eval).run X.P w)
theorem QJ.value {X:Cx}{o:Oper}{t:T}{σ:Sg}{V:AV}(hn:∀c,o.op≠ .defer c)
 (h:∀(γ:Ids)(H:HF)(a:Act)(w:World),(∀x,x∈o.op.operands→∀v,ge t x=some v→Rep γ H v (a.eval x))→Mem X.w0 X.H0 X.B γ H σ w→∃v,(execOp a.eval o).run X.P w=.ok (.value v) w∧Rep γ H V v):QJ X o t σ V:=by
 intro γ H a w _ so sm next Q' hk
 obtain⟨v,hv,r⟩:=h γ H a w so sm
 rw[aG hn,hv,Oper.uponIn_value]
 exact hk v γ [] H w (sm.refl γ) r
theorem QJ.wk {X:Cx}{o:Oper}{t t':T}{σ σ':Sg}{V:AV}(ht:Wk t' t)(hs:Wk σ' σ)(h:QJ X o t' σ' V):QJ X o t σ V:=
 fun γ H a w hl so sm=>h γ H a w hl (fun x hx v hv=>so x hx v (by
  cases x with
  |tmp i=>exact ht i v hv
  |const c=>exact hv
  |func f=>exact hv
  |global g=>exact hv)) (sm.wk hs)
theorem QJ.view {X:Cx}{o:Oper}{t:T}{σ:Sg}{V V':AV}(h:QJ X o t σ V)(hv:∀γ H u,Rep γ H V u→Rep γ H V' u):QJ X o t σ V':=
 fun γ H a w hl so sm next Q' hk=>h γ H a w hl so sm next Q' fun v γ' σ' H' w' hm hr=>hk v γ' σ' H' w' hm (hv _ _ _ hr)
theorem OpJ.quiet {X:Cx}{o:Oper}{t:T}{σ:Sg}{V:AV}{K:T→Sg→Prop}(h:QJ X o t σ V)(hN:dOk o.dst X.N=true)(k:K (putT o.dst V t) σ):OpJ X o t σ K:=by
 intro γ H a w s next Q' hk
 exact h γ H a w s.lam (fun _ _ _ hv=>aT s.tmp hv) s.mem next Q' fun v γ' σ' H' w' hm hr=>hk γ H' _ σ _ w' (s.calm hm hN hr) k
def Ct (Λ:Amb)(P:Program)(f:FuncId)(avs:List AV)(σ:Sg)(Q:AV→Sg→Prop):Prop:=
 ∀(ro:Option Nat)(γ:Ids)(H:HF)(w:World)(vs:List Value),Lam Λ w (blks γ σ)→Mem w H (blks γ σ) γ H σ w→vs.length=avs.length→
  (∀(j:Nat)(a:AV)(u:Value),avs[j]?=some a→vs[j]?=some u→Rep γ H a u)→
  CallsIn (Fr ro) 0 P f vs.toArray w fun e w'=>∃v r σ' γ' H',e=.returned v∧Q r σ'∧Rep γ' H' r v∧(∀i,look i σ'=none→γ i=γ' i)∧(∀i e,look i σ=some e→e.var=true→γ i=γ' i)∧Mem w H (blks γ σ) γ' H' σ' w'
theorem Ct.mono {Λ:Amb}{P:Program}{f:FuncId}{avs:List AV}{σ:Sg}{Q Q':AV→Sg→Prop}(h:Ct Λ P f avs σ Q)(hq:∀r σ,Q r σ→Q' r σ):Ct Λ P f avs σ Q':=
 fun ro γ H w vs h1 h2 h3 h4=>(h ro γ H w vs h1 h2 h3 h4).mono fun e w' ⟨v,r,σ,γ',H',he,hQ,hr,ha,hp,hm⟩=>⟨v,r,σ,γ',H',he,hq r σ hQ,hr,ha,hp,hm⟩
def eo {α:Type}:Nat→List α→List (Nat×α)
 |_,[]=>[]
 |k,a::r=>(k,a)::eo (k+1) r
theorem pj {α:Type}(l:List α):∀(k i:Nat)(a:α),look i (eo k l)=some a→∃j,i=k+j∧l[j]?=some a:=by
 induction l with
 |nil=>intro k i a h;simp[eo,look]at h
 |cons b r ih=>
  intro k i a h
  simp only[eo,ae]at h
  split at h
  ·exact⟨0,by omega,by simpa using h⟩
  ·obtain⟨j,e,hj⟩:=ih (k+1) i a h
   exact⟨j+1,by omega,by simpa using hj⟩
def eZ (pin:List Nat)(r:AV)(σ:Sg):Prop:=(∀j,aP j r=true→(look j σ).isSome=true∨j∈pin)∧∀i e,look i σ=some e→∀j,aJ j e=true→(look j σ).isSome=true∨j∈pin
def Ak (X:Cx)(fn:Func)(t:T)(σ:Sg)(r:AV)(σ':Sg):Prop:=
 ∀γ H a w,St X γ H t σ a w→∃v γ' H',(results fn a.tmps).run X.P w=.ok v w∧St X γ' H' t σ' a w∧Rep γ' H' r v
def Ret (X:Cx)(fn:Func)(Q:AV→Sg→Prop):Qt
 |.normal,t,σ|.ret,t,σ=>∃r σ',Ak X fn t σ r σ'∧eZ X.pin r σ'∧Q r σ'
 |_,_,_=>False
def fz (σ:Sg):List Nat:=σ.filterMap fun p=>match p.2.var with|true=>some p.1|false=>none
theorem sn {σ:Sg}{i:Nat}{e:Ent}(h:look i σ=some e)(hv:e.var=true):i∈fz σ:=by
 simp only[fz,List.mem_filterMap]
 exact⟨_,cI h,by simp[hv]⟩
theorem uc {w0 w:World}{H0 H:HF}{B:Nat→Prop}{γ:Ids}{σ:Sg}{b:Nat}{o:Obj}(h:Mem w0 H0 B γ H σ w)(hb:w.heap[b]?=some (.deferred (some [])))(h0:w0.heap.size≤b)(hn:¬blks γ σ b):
 Mem w0 H0 B γ H σ (w.putObj b o):=by
 have hs:∀k,k≠b→(w.putObj b o).heap[k]?=w.heap[k]?:=fun k hk=>World.putObj_heap_other hk
 have hne:∀c x v,w.cell? ⟨c,x,none⟩=some v→c≠b:=fun c x v hc e=>by subst e;simp[World.cell?,hb]at hc
 refine⟨⟨h.keep.os,h.keep.tape,h.keep.output,by simpa using h.keep.size,fun k hk hB=>(hs k (by omega)).trans (h.keep.block k hk hB)⟩,h.hle,h.hnew,⟨fun c x v hv=>?_,fun c x y hv=>?_⟩,fun i e hi=>?_,h.free,h.fresh,h.apart⟩
 ·have:=h.hok.c c x v hv
  simp only[World.cell?]at this ⊢
  rw[hs c (hne c x v (h.hok.c c x v hv))];exact this
 ·have:=h.hok.m c x y hv
  rw[hs c fun e=>by subst e;rw[hb]at this;cases this];exact this
 ·exact(h.ent i e hi).later (HLe.refl _) (by simp) fun c hc=>hs c fun e'=>hn (e'▸⟨i,e,hi,hc⟩)
end Go.Gv
end
section
namespace Go.Gv
open Go.RowKit
theorem kN {X:Cx}{fn:Func}{R:Ending→World→Prop}{t:T}{σ:Sg}{tmps:Array Value}(hd:X.ro=X.ro):∀(ms:List Nat)(γ:Ids)(H:HF)(w:World),
 (∀w',(St X γ H t σ {tmps:=tmps,defers:=[]} w'→∃v,(results fn tmps).run X.P w'=.ok v w'∧R (.returned v) w'))→
 (∀ds,St X γ H t σ {tmps:=tmps,defers:=ds} w→St X γ H t σ {tmps:=tmps,defers:=[]} w)→Marked X.w0 γ σ w ms→St X γ H t σ {tmps:=tmps,defers:=[]} w→
 LeavesInM (Fr none) 0 X.P fn tmps R (ms.map fun b=>{target:=.collected b,args:=#[]}) .returning w
 |[],γ,H,w,h,_,_,s=>h w s
 |b::ms,γ,H,w,h,h1,m,s=>by
  obtain⟨hb1,hb2,hb3⟩:=m.2 b (by simp)
  have hmem:=uc (o:=.deferred none) s.mem hb1 hb2 hb3
  have m':Marked X.w0 γ σ (w.putObj b (.deferred none)) ms:=⟨(List.nodup_cons.1 m.1).2,fun c hc=>by
   obtain⟨h2,h3,h4⟩:=m.2 c (by simp[hc])
   have hne:c≠b:=fun e=>(List.nodup_cons.1 m.1).1 (e▸hc)
   exact⟨(World.putObj_heap_other hne).trans h2,h3,h4⟩⟩
  have s':St X γ H t σ {tmps:=tmps,defers:=[]} (w.putObj b (.deferred none)):=⟨s.lam,s.round,⟨[],rfl,List.nodup_nil,fun b h=>by simp at h⟩,s.size,s.pinned,s.tmp,hmem⟩
  refine⟨by simp,.inl ⟨b,_,rfl,run_takeDeferred hb1,kN hd ms γ H _ h (fun ds _=>s') m' s'⟩⟩
theorem tH {Λ:Amb}{P:Program}{f:FuncId}{fn:Func}{c:Code}{avs:List AV}{σ:Sg}{Q:AV→Sg→Prop}(N:Nat)(hf:P.funcs[f]?=some fn)(hb:fn.body=some c)
 (hN:fn.ntmps=N)(hl:avs.length≤N)
 (h:∀w H B g0,WJ ⟨P,Λ,none,w,H,B,N,fz σ,g0⟩ c (eo 0 avs) σ (Ret ⟨P,Λ,none,w,H,B,N,fz σ,g0⟩ fn Q)):Ct Λ P f avs σ Q:=by
 intro ro γ H w vs hΛ hm hlen hr
 have key:CallsIn (Fr none) 0 P f vs.toArray w fun e w'=>∃v r σ' γ' H',e=.returned v∧Q r σ'∧Rep γ' H' r v∧(∀i,look i σ'=none→γ i=γ' i)∧(∀i e,look i σ=some e→e.var=true→γ i=γ' i)∧Mem w H (blks γ σ) γ' H' σ' w':=by
  let X:Cx:=⟨P,Λ,none,w,H,blks γ σ,N,fz σ,γ⟩
  have s0:St X γ H (eo 0 avs) σ {tmps:=vs.toArray++Array.replicate (fn.ntmps-vs.toArray.size) undef,defers:=[]} w:=by
   refine⟨hΛ,(fun l h=>by cases h),⟨[],rfl,List.nodup_nil,fun b h=>by simp at h⟩,?_,fun i _=>rfl,?_,hm⟩
   ·simp[hN,X];omega
   ·intro i a hi
    obtain⟨j,rfl,hj⟩:=pj avs 0 i a hi
    have hjl:j<vs.length:=by rw[hlen];exact(List.getElem?_eq_some_iff.1 hj).1
    refine⟨vs[j],?_,hr j a _ hj (by simp[hjl])⟩
    simp only[Nat.zero_add]
    rw[Array.getElem?_append_left (by simpa using hjl)]
    simp[hjl]
  refine callsIn_of_wp_marks hf hb trivial (wpIn_mono (h w H (blks γ σ) γ γ H _ w s0) ?_) rfl
  rintro e a w' ⟨γe,He,t,σe,s,q⟩
  have fin:(∃r σ',Ak X fn t σe r σ'∧eZ X.pin r σ'∧Q r σ')→LeavesInM (Fr none) 0 P fn a.tmps (fun e w'=>∃v r σ' γ' H',e=.returned v∧Q r σ'∧Rep γ' H' r v∧(∀i,look i σ'=none→γ i=γ' i)∧(∀i e,look i σ=some e→e.var=true→γ i=γ' i)∧Mem w H (blks γ σ) γ' H' σ' w') a.defers .returning w':=by
   rintro⟨r,σ',hri,hcl,hq⟩
   obtain⟨ms,hd,m⟩:=s.defers
   rw[hd]
   have s':St X γe He t σe {tmps:=a.tmps,defers:=[]} w':=⟨s.lam,s.round,⟨[],rfl,List.nodup_nil,fun b h=>by simp at h⟩,s.size,s.pinned,s.tmp,s.mem⟩
   refine kN (X:=X) (fn:=fn) (t:=t) (σ:=σe) rfl ms γe He w' (fun w'' s''=>?_) (fun _ _=>s') m s'
   obtain⟨v,γ2,H2,hv,s2,rep⟩:=hri γe He _ w'' s''
   have hpin:∀i,i∈fz σ→γ2 i=γ i:=fun i hi=>s2.pinned i hi
   let γ':Ids:=fun i=>if (look i σ').isSome=true then γ2 i else γ i
   have ag:∀j,((look j σ').isSome=true∨j∈fz σ)→γ2 j=γ' j:=fun j hj=>by
    show γ2 j=if (look j σ').isSome=true then γ2 j else γ j
    split
    ·rfl
    ·next hn=>exact hpin j (hj.resolve_left hn)
   have dom:∀i e,look i σ'=some e→γ2 i=γ' i:=fun i e hi=>ag i (.inl (by simp[hi]))
   refine⟨v,hv,v,r,σ',γ',H2,rfl,hq,rep.agree fun j hj=>ag j (hcl.1 j hj),fun i hi=>?_,fun i e hi hv=>?_,?_⟩
   ·show γ i=if (look i σ').isSome=true then γ2 i else γ i
    rw[hi];rfl
   ·exact(hpin i (sn hi hv)).symm.trans (ag i (.inr (sn hi hv)))
   ·have m2:=s2.mem
    exact⟨m2.keep,m2.hle,m2.hnew,m2.hok,fun i e hi=>(m2.ent i e hi).agree (dom i e hi) fun j hj=>ag j (hcl.2 i e hi j hj),fun i e hi b hbk=>m2.free i e hi b (by rw[co (dom i e hi)];exact hbk),
     fun i e hi b hbk=>m2.fresh i e hi b (by rw[co (dom i e hi)];exact hbk),fun i e j e' b hi hj hb hb'=>m2.apart i e j e' b hi hj (by rw[co (dom i e hi)];exact hb) (by rw[co (dom j e' hj)];exact hb')⟩
  cases e with
  |normal=>exact fin q
  |ret=>exact fin q
  |exit id=>exact q.elim
  |goto l=>exact q.elim
  |panic ch=>exact q.elim
  |outgrown=>exact q.elim
 cases ro with
 |none=>exact key
 |some l=>exact CallsIn.inRound l key
def iE (t:T):List Operand→Option (List AV)
 |[]=>some []
 |o::l=>match ge t o with
  |some a=>match iE t l with
   |some r=>some (a::r)
   |none=>none
  |none=>none
theorem bE {t:T}:∀{l:List Operand}{avs:List AV},iE t l=some avs→l.map (ge t)=avs.map some
 |[],avs,h=>by simp[iE]at h;subst h;rfl
 |o::l,avs,h=>by
  simp only[iE]at h
  split at h
  ·next a ha=>
   split at h
   ·next r hr=>simp only[Option.some.injEq]at h;subst h;simp[ha,bE hr]
   ·cases h
  ·cases h
theorem ga {γ:Ids}{H:HF}{t:T}{a:Act}:∀{l:List Operand}{avs:List AV}(_:∀x,x∈l→∀v,ge t x=some v→Rep γ H v (a.eval x)),l.map (ge t)=avs.map some→
 ∀(j:Nat)(x:AV)(u:Value),avs[j]?=some x→(l.map a.eval)[j]?=some u→Rep γ H x u
 |[],avs,_,h,j,x,u,h1,h2=>by simp at h2
 |o::l,[],_,h,j,x,u,h1,h2=>by simp at h1
 |o::l,y::avs,ht,h,j,x,u,h1,h2=>by
  simp only[List.map_cons,List.cons.injEq]at h
  cases j with
  |zero=>simp at h1 h2;subst h1;subst h2;exact ht o (by simp) _ h.1
  |succ j=>exact ga (fun x hx=>ht x (by simp[hx])) h.2 j x u (by simpa using h1) (by simpa using h2)
def am (i:Nat)(t:T)(σ:Sg)(pin:List Nat):Bool:=t.all (fun p=>!aP i p.2)&&σ.all (fun p=>!Nat.beq i p.1&&!aJ i p.2)&&pin.all fun j=>!Nat.beq i j
theorem dK {i j:Nat}{t:T}{σ:Sg}{pin:List Nat}{a:AV}(h:am i t σ pin=true)(hj:look j t=some a):aP i a=false:=by
 simp only[am,Bool.and_eq_true,List.all_eq_true]at h
 have:=h.1.1 _ (cI hj)
 simpa using this
theorem aS {i j:Nat}{t:T}{σ:Sg}{pin:List Nat}{e:Ent}(h:am i t σ pin=true)(hj:look j σ=some e):j≠i∧aJ i e=false:=by
 simp only[am,Bool.and_eq_true,List.all_eq_true]at h
 have:=h.1.2 _ (cI hj)
 simp only[Bool.not_eq_true',Bool.and_eq_true]at this
 exact⟨fun e=>by subst e;simp at this,this.2⟩
theorem gb {i:Nat}{t:T}{σ:Sg}{pin:List Nat}(h:am i t σ pin=true){j:Nat}(hj:j∈pin):j≠i:=by
 simp only[am,Bool.and_eq_true,List.all_eq_true]at h
 have:=h.2 j hj
 intro e;subst e;simp at this
universe u in
def ij {α:Type u}:Option α→Bool
 |some _=>true
 |none=>false
def al (σL σ:Sg):Sg:=σ.filter fun p=>!ij (look p.1 σL)
theorem be {σL σ:Sg}{i:Nat}:look i (al σL σ)=if ij (look i σL)=true then none else look i σ:=by
 rw[al,ba (q:=fun i=>!ij (look i σL))]
 by_cases h:ij (look i σL)=true<;>simp[h]
def mR (σL:Sg)(i:Nat):Bool:=match look i σL with
 |some e=>e.var
 |none=>false
def yo (σ' σL:Sg)(t:T)(σ:Sg)(pin:List Nat):Bool:=σ'.all fun p=>mR σL p.1||am p.1 t (al σL σ) pin
section call
variable {X:Cx} {d:Option Nat} {ty:TypeId} {pos:String} {aft:Array Edge} {g:Option (Nat×Bool)} {t:T} {σ:Sg} {K:T→Sg→Prop}
theorem oS {f:FuncId}{args:Array Operand}{tys:Array TypeId}{w:World}{a:Act}(hok:fI X.P f):
 (execOp a.eval ⟨d,.call {callee:=.value (.func f),args:=args,argTypes:=tys},ty,pos,aft,g⟩).run X.P w=.ok (.enter f (args.map a.eval)) w:=by
 have:=hok (args.map a.eval) w
 simpa[execOp,resolve,Act.eval,Deferred.ofValue,invoke]using this
theorem qY {γ:Ids}{σL σ:Sg}(hs:Wk σL σ){b:Nat}(h:blks γ σL b):∃i e,look i σ=some e∧look i (al σL σ)=none∧blk γ i e b:=by
 obtain⟨i,e,hi,hb⟩:=h
 exact⟨i,e,hs i e hi,by rw[be,hi];rfl,hb⟩
theorem fR {σL σ:Sg}:Wk (al σL σ) σ:=fun i e h=>by
 rw[be]at h
 split at h
 ·cases h
 ·exact h
theorem St.lamAt {γ:Ids}{H:HF}{a:Act}{w:World}(s:St X γ H t σ a w)(σL:Sg)(hs:Wk σL σ):Lam X.Λ w (blks γ σL):=
 s.lam.keep s.mem.keep fun b ⟨i,e,hi,hb⟩=>(s.mem.fresh i e (hs i e hi) b hb).elim (fun h=>Nat.le_trans s.lam.2.1 h) (s.lam.2.2 b)
theorem OpJ.call {f:FuncId}{args:Array Operand}{tys:Array TypeId}{avs:List AV}{σL:Sg}{Q:AV→Sg→Prop}(hc:Ct X.Λ X.P f avs σL Q)(hok:fI X.P f)(hN:dOk d X.N=true)
 (ha:iE t args.toList=some avs)(hs:Wk σL σ)(k:∀r σ',Q r σ'→yo σ' σL t σ X.pin=true∧K (putT d r t) (σ'++al σL σ)):
 OpJ X ⟨d,.call {callee:=.value (.func f),args:=args,argTypes:=tys},ty,pos,aft,g⟩ t σ K:=by
 intro γ H a w s next Q' hk
 rw[aG (by simp),oS hok,Oper.uponIn_enter]
 refine⟨fun h=>by simp[Fr]at h,?_⟩
 have:=hc X.ro γ H w (args.map a.eval).toList (s.lamAt σL hs) (s.mem.wk hs).self (by have:=congrArg List.length (bE ha);simpa using this) (by
  have:=ga (γ:=γ) (H:=H) (a:=a) (fun x _ v hv=>aT s.tmp hv) (bE ha)
  simpa using this)
 simp only[Array.toArray_toList]at this
 refine this.mono ?_
 rintro e w' ⟨v,r,σ',γ',H',rfl,hq,hr,hag,hpin,hm⟩
 obtain⟨htk,hK⟩:=k r σ' hq
 have tk:∀j e,look j σ'=some e→(∃e,look j σL=some e∧e.var=true)∨am j t (al σL σ) X.pin=true:=fun j e hj=>by
  have:=List.all_eq_true.1 htk _ (cI hj)
  rcases Bool.or_eq_true_iff.1 this with h|h
  ·left
   unfold mR at h
   split at h
   ·next e hcs=>exact⟨e,hcs,h⟩
   ·cases h
  ·exact .inr h
 have same:∀j,(∀e,look j σ'=some e→am j t (al σL σ) X.pin=true→False)→γ j=γ' j:=fun j hj=>by
  cases hx:look j σ' with
  |none=>exact hag j hx
  |some e=>
   rcases tk j e hx with⟨e',h,hv⟩|h
   ·exact hpin j e' h hv
   ·exact(hj e hx h).elim
 refine hk γ' H' _ _ _ w' (s.step (σr:=al σL σ) hm (fun b hb=>qY hs hb) fR (fun i e hi=>?_) (fun i e hi=>⟨same i fun f _ hf=>?_,fun j hj=>same j fun f _ hf=>?_⟩) (fun i hi=>same i fun f _ hf=>?_) (fun i x hi j hj=>same j fun f _ hf=>?_) hN hr) hK
 ·cases hx:look i σ' with
  |none=>rfl
  |some f=>
   rcases tk i f hx with⟨e',h,hv⟩|h
   ·rw[be,h]at hi;cases hi
   ·exact absurd rfl (aS h hi).1
 ·exact(aS hf hi).1 rfl
 ·have:=(aS hf hi).2;rw[hj]at this;cases this
 ·exact gb hf hi rfl
 ·have:=dK hf hi;rw[hj]at this;cases this
theorem QJ.call {f:FuncId}{args:Array Operand}{tys:Array TypeId}{avs:List AV}{r:AV}(hc:Ct X.Λ X.P f avs [] (fun q _=>q=r))(hok:fI X.P f)
 (ha:iE t args.toList=some avs)(ho:r.open=true):QJ X ⟨d,.call {callee:=.value (.func f),args:=args,argTypes:=tys},ty,pos,aft,g⟩ t σ r:=by
 intro γ H a w hl so sm next Q' hk
 rw[aG (by simp),oS hok,Oper.uponIn_enter]
 refine⟨fun h=>by simp[Fr]at h,?_⟩
 have hso:∀x,x∈args.toList→∀v,ge t x=some v→Rep γ H v (a.eval x):=fun x hx=>so x (by simp[Op.operands,Call.operands]at hx ⊢;exact .inr hx)
 have he:blks γ []=fun _=>False:=by
  funext b;simp[blks,look]
 have:=hc X.ro γ H w (args.map a.eval).toList (hl.keep sm.keep (by rw[he];exact fun b h=>h.elim)) (by rw[he];exact sm.refl γ) (by have:=congrArg List.length (bE ha);simpa using this) (by
  have:=ga hso (bE ha)
  simpa using this)
 simp only[Array.toArray_toList]at this
 refine this.mono ?_
 rintro e w' ⟨v,r',σ',γ',H',rfl,rfl,hr,_,_,hm⟩
 rw[he]at hm
 exact hk v γ' σ' H' w' hm (hr.free ho)
end call
def AV.scalar:AV→Bool
 |.d (.v _)=>true
 |_=>false
theorem Rep.scalar {γ γ':Ids}{H H':HF}{a:AV}{u:Value}(h:a.scalar=true)(r:Rep γ H a u):Rep γ' H' a u:=by
 cases r with
 |d x u hr=>cases hr with
  |v _ hx=>exact .d _ _ (.v _ hx)
  |_=>simp[AV.scalar]at h
 |_=>simp[AV.scalar]at h
end Go.Gv
end
section
namespace Go.Gv
open Go.RowKit
section fU
variable {X:Cx} {d:Option Nat} {ty:TypeId} {pos:String} {aft:Array Edge} {g:Option (Nat×Bool)} {t:T} {σ:Sg} {K:T→Sg→Prop}
theorem O.un {op:UnOp}{ot:TypeId}{x:Operand}{vx v:Value}(hx:ge t x=some (.d (.v vx)))
 (hv:∀w,(Op.unary op vx).run X.P w=.ok v w)(h1c:v.oneCell'=true):QJ X ⟨d,.unOp op ot x,ty,pos,aft,g⟩ t σ ((.d (.v v))):=
 QJ.value (by simp) (fun γ H a w so sm=>by
  have h1:=aV (so _ (by simp[Op.operands,Call.operands]) _ hx)
  refine⟨v,?_,.d _ _ (.v v h1c)⟩
  simp only[execOp,h1,Sem.run_bind,hv w];rfl)
theorem O.conv {src dst:TypeId}{x:Operand}{vx v:Value}(hx:ge t x=some (.d (.v vx)))
 (hv:∀w,(convert src dst vx).run X.P w=.ok v w)(h1c:v.oneCell'=true):QJ X ⟨d,.convert src dst x,ty,pos,aft,g⟩ t σ ((.d (.v v))):=
 QJ.value (by simp) (fun γ H a w so sm=>by
  have h1:=aV (so _ (by simp[Op.operands,Call.operands]) _ hx)
  refine⟨v,?_,.d _ _ (.v v h1c)⟩
  simp only[execOp,h1,Sem.run_bind,hv w];rfl)
theorem AN {b:Builtin}{x:Operand}{tys:Array TypeId}{vx v:Value}(hx:ge t x=some (.d (.v vx)))
 (hv:∀cs w,(builtin b tys ty cs #[vx]).run X.P w=.ok (.value v) w)(h1c:v.oneCell'=true):QJ X ⟨d,.call {callee:=.builtin b,args:=#[x],argTypes:=tys},ty,pos,aft,g⟩ t σ ((.d (.v v))):=
 QJ.value (by simp) (fun γ H a w so sm=>by
  have h1:=aV (so _ (by simp[Op.operands,Call.operands]) _ hx)
  refine⟨v,?_,.d _ _ (.v v h1c)⟩
  simp[execOp,resolve,invoke,h1,hv])
theorem AM {b:Builtin}{x y:Operand}{tys:Array TypeId}{vx vy v:Value}(hx:ge t x=some (.d (.v vx)))(hy:ge t y=some (.d (.v vy)))
 (hv:∀cs w,(builtin b tys ty cs #[vx,vy]).run X.P w=.ok (.value v) w)(h1c:v.oneCell'=true):QJ X ⟨d,.call {callee:=.builtin b,args:=#[x,y],argTypes:=tys},ty,pos,aft,g⟩ t σ ((.d (.v v))):=
 QJ.value (by simp) (fun γ H a w so sm=>by
  have h1:=aV (so _ (by simp[Op.operands,Call.operands]) _ hx)
  have h2:=aV (so _ (by simp[Op.operands,Call.operands]) _ hy)
  refine⟨v,?_,.d _ _ (.v v h1c)⟩
  simp[execOp,resolve,invoke,h1,h2,hv])
def jN:AV→Option Nat
 |.d (.sl _ xs)=>some xs.length
 |.d (.v (.slice _ n _))=>some n
 |.full _ xs=>some xs.length
 |.arr _ _ n=>some n
 |.suf _ _ _ n=>some n
 |_=>none
theorem Bv {γ:Ids}{H:HF}{a:AV}{u:Value}{n:Nat}(r:Rep γ H a u)(h:jN a=some n):∃A c,u=.slice A n c:=by
 cases r with
 |d x u hr=>
  cases hr with
  |sl k xs A c b o us=>simp only[jN,Option.some.injEq]at h;subst h;exact⟨A,c,rfl⟩
  |v _ hc=>cases u<;>simp[jN]at h;subst h;exact⟨_,_,rfl⟩
  |_=>simp[jN]at h
 |full k xs A hr=>simp only[jN,Option.some.injEq]at h;subst h;exact⟨A,_,rfl⟩
 |arr i k n A _ _=>simp only[jN,Option.some.injEq]at h;subst h;exact⟨A,_,rfl⟩
 |suf i k l n A _ _=>simp only[jN,Option.some.injEq]at h;subst h;exact⟨A,_,rfl⟩
 |_=>simp[jN]at h
theorem O.len {x:Operand}{tt e:TypeId}{av:AV}{n:Nat}(hx:ge t x=some av)(hl:jN av=some n)(hu:X.P.underlying tt=some (.slice e))
 :QJ X ⟨d,.call {callee:=.builtin .len,args:=#[x],argTypes:=#[tt]},ty,pos,aft,g⟩ t σ ((.d (.v (.int .i64 n)))):=
 QJ.value (by simp) (fun γ H a w so sm=>by
  obtain⟨A,c,h1⟩:=Bv (so _ (by simp[Op.operands,Call.operands]) _ hx) hl
  refine⟨.int .i64 n,?_,.d _ _ (.v _ rfl)⟩
  simp[execOp,resolve,invoke,h1,builtin,Builtin.len_,underlying,hu,goInt])
end fU
def bI {α:Type}:List α→Nat→List α→List α
 |us,_,[]=>us
 |us,p,v::vs=>bI (us.set p v) (p+1) vs
theorem bV {α:Type}:∀(vs us:List α)(p:Nat),(bI us p vs).length=us.length
 |[],_,_=>rfl
 |v::vs,us,p=>by simp only[bI];rw[bV vs];simp
structure SameBut (b:Nat)(w w':World):Prop where
 os:w'.os=w.os
 tape:w'.tape=w.tape
 output:w'.output=w.output
 size:w'.heap.size=w.heap.size
 block:∀k,k≠b→w'.heap[k]?=w.heap[k]?
theorem SameBut.refl (b:Nat)(w:World):SameBut b w w:=⟨rfl,rfl,rfl,rfl,fun _ _=>rfl⟩
theorem SameBut.trans {b:Nat}{u v w:World}(h:SameBut b u v)(k:SameBut b v w):SameBut b u w:=
 ⟨k.os.trans h.os,k.tape.trans h.tape,k.output.trans h.output,k.size.trans h.size,fun i hi=>(k.block i hi).trans (h.block i hi)⟩
theorem wE {P:Program}{w:World}{b o:Nat}{t:TypeId}{us:List Value}{v:Value}(h:w.heap[b]?=some (.cells us.toArray t (0,0)))(ho:o<us.length)(hv:v.oneCell'=true):
 (store ⟨b,o,none⟩ v).run P w=.ok () (w.setCell ⟨b,o,none⟩ v)∧(w.setCell ⟨b,o,none⟩ v).heap[b]?=some (.cells (us.set o v).toArray t (0,0))∧SameBut b w (w.setCell ⟨b,o,none⟩ v):=by
 have hc:w.cell? ⟨b,o,none⟩=some us[o]:=by simp[World.cell?,h,ho]
 have hf:w.frozen? ⟨b,o,none⟩=false:=by simp[World.frozen?,h]
 refine⟨?_,?_,rfl,rfl,rfl,by simp[World.setCell],fun k hk=>?_⟩
 ·rw[run_store P w _ v .plain hv]
  simp[hc,hf]
 ·simp[World.setCell,Array.getElem?_modify,h]
 ·simp only[World.setCell,Array.getElem?_modify]
  rw[if_neg (fun e=>hk e.symm)]
theorem gB {P:Program}{b:Nat}{t:TypeId}:∀(vs:List Value)(w:World)(us:List Value)(off i:Nat),w.heap[b]?=some (.cells us.toArray t (0,0))→
 off+i+vs.length≤us.length→(∀v,v∈vs→v.oneCell'=true)→
 ∃w',(storeCells ⟨b,off,none⟩ vs i).run P w=.ok () w'∧w'.heap[b]?=some (.cells (bI us (off+i) vs).toArray t (0,0))∧SameBut b w w'
 |[],w,us,off,i,h,_,_=>⟨w,rfl,h,SameBut.refl _ _⟩
 |v::vs,w,us,off,i,h,hl,hv=>by
  simp only[List.length_cons]at hl
  obtain⟨h1,h2,h3⟩:=wE (P:=P) h (o:=off+i) (by omega) (hv v (by simp))
  obtain⟨w',h4,h5,h6⟩:=gB (P:=P) vs _ _ off (i+1) h2 (by simp;omega) (fun v hm=>hv v (by simp[hm]))
  refine⟨w',?_,h5,h3.trans h6⟩
  have ha:(⟨b,off,none⟩:Addr).add i=⟨b,off+i,none⟩:=by
   unfold Addr.add;split<;>simp_all
  simp only[storeCells,ha,Sem.run_bind,h1,Result.andThen_ok,h4]
def aE:AV→List AV
 |.agg cs=>cs
 |a=>[a]
def cz:AV→Bool
 |.agg _=>true
 |.tup _=>false
 |.junk=>false
 |_=>true
theorem ky {H:HF}{x:D}{u:Value}(r:RepD H x u):u.oneCell'=true∧u.cells=#[u]:=by
 cases r with
 |v _ h=>cases u<;>simp_all [Value.oneCell',Value.cells]
 |_=>exact⟨rfl,rfl⟩
theorem cQ {γ:Ids}{H:HF}{a:AV}{u:Value}(r:Rep γ H a u)(h:cz a=true):
 ∃us:List Value,u.cells=us.toArray∧us.length=(aE a).length∧∀(j:Nat)(x:AV)(y:Value),(aE a)[j]?=some x→us[j]?=some y→Rep γ H x y:=by
 have one:u.cells=#[u]→aE a=[a]→∃us:List Value,u.cells=us.toArray∧us.length=(aE a).length∧∀(j:Nat)(x:AV)(y:Value),(aE a)[j]?=some x→us[j]?=some y→Rep γ H x y:=by
  intro h1 h2
  refine⟨[u],by simpa using h1,by simp[h2],fun j x y hx hy=>?_⟩
  rw[h2]at hx
  cases j with
  |zero=>simp at hx hy;subst hx;subst hy;exact r
  |succ j=>simp at hx
 cases r with
 |d x u hr=>exact one (ky hr).2 rfl
 |agg cs us hl hr=>exact⟨us,by simp[Value.cells],hl,hr⟩
 |tup=>simp[cz]at h
 |junk=>simp[cz]at h
 |fnp f cs us hl hr=>exact one rfl rfl
 |box=>exact one rfl rfl
 |mp=>exact one rfl rfl
 |full=>exact one rfl rfl
 |boxX=>exact one rfl rfl
 |arr=>exact one rfl rfl
 |suf=>exact one rfl rfl
def gp:List AV→Bool
 |[]=>true
 |.agg _::_=>false
 |a::r=>cz a&&gp r
theorem nH:∀{cs:List AV}(_:gp cs=true){j:Nat}{a:AV},cs[j]?=some a→cz a=true∧∀x,a≠ .agg x
 |[],_,j,a,h=>by simp at h
 |b::r,h,j,a,ha=>by
  cases j with
  |zero=>
   simp at ha;subst ha
   cases b<;>simp_all [gp]
  |succ j=>
   have:gp r=true:=by cases b<;>simp_all [gp]
   exact nH this (by simpa using ha)
theorem Bu {γ:Ids}{H:HF}{a:AV}{u:Value}(r:Rep γ H a u)(h:cz a=true)(hn:∀x,a≠ .agg x):u.oneCell'=true:=by
 cases r with
 |d x u hr=>exact(ky hr).1
 |agg cs=>exact absurd rfl (hn cs)
 |tup=>simp[cz]at h
 |junk=>simp[cz]at h
 |_=>rfl
def gj:AV→Option (Nat×Nat)
 |.box i off=>some (i,off)
 |.boxX i off=>some (i,off)
 |_=>none
theorem cR {γ:Ids}{H:HF}{av:AV}{u:Value}{i off:Nat}(h:gj av=some (i,off))(r:Rep γ H av u):u=.pointer (some ⟨(γ i).b,off,none⟩):=by
 cases av<;>simp[gj]at h<;>(obtain⟨rfl,rfl⟩:=h;cases r;rfl)
section mem
variable {X:Cx} {d:Option Nat} {ty:TypeId} {pos:String} {aft:Array Edge} {g:Option (Nat×Bool)} {t:T} {σ:Sg} {K:T→Sg→Prop}
theorem du {P:Program}{w:World}{b:Nat}{vs:Nat→Value}:∀(n off i:Nat)(acc:Array Value),(∀j,j<n→w.cell? ⟨b,off+i+j,none⟩=some (vs (i+j)))→
 (loadCellsFrom ⟨b,off,none⟩ i n acc).run P w=.ok (acc++((List.range' i n).map vs).toArray) w
 |0,off,i,acc,h=>by simp[loadCellsFrom]
 |n+1,off,i,acc,h=>by
  have ha:(⟨b,off,none⟩:Addr).add i=⟨b,off+i,none⟩:=by
   unfold Addr.add;split<;>simp_all
  have h0:=h 0 (by omega)
  simp only[Nat.add_zero]at h0
  have ih:=du (P:=P) n off (i+1) (acc.push (vs i)) (fun j hj=>by have:=h (j+1) (by omega);rw[show off+(i+1)+j=off+i+(j+1)from by omega,show i+1+j=i+(j+1)from by omega];exact this)
  simp only[loadCellsFrom,ha,Sem.run_bind,run_load,h0,Result.andThen_ok,ih,List.range'_succ,List.map_cons]
  congr 1
  apply Array.toList_inj.1
  simp
theorem dC {P:Program}{w:World}{ty:TypeId}{ad:Addr}{v:Value}(ha:∀w,(isAgg ty).run P w=.ok false w)(h:w.cell? ad=some v):(loadVar ty ad).run P w=.ok v w:=by
 simp[loadVar,ha,h]
theorem fW {P:Program}{w:World}{ty:TypeId}{b off n:Nat}{us:List Value}(ha:∀w,(isAgg ty).run P w=.ok true w)(hs:∀w,(sizeOf ty).run P w=.ok n w)(hl:us.length=n)
 (h:∀j,j<n→w.cell? ⟨b,off+j,none⟩=us[j]?):(loadVar ty ⟨b,off,none⟩).run P w=.ok (.agg us.toArray) w:=by
 have:=du (P:=P) (w:=w) (b:=b) (vs:=fun j=>us.getD j undef) n off 0 #[] (fun j hj=>by
  simp only[Nat.add_zero,Nat.zero_add]
  rw[h j hj,List.getD_eq_getElem?_getD,List.getElem?_eq_getElem (by omega)];rfl)
 have e:((List.range' 0 n).map fun j=>us.getD j undef)=us:=by
  apply List.ext_getElem?
  intro j
  simp only[List.getElem?_map,List.getD_eq_getElem?_getD]
  by_cases hj:j<n
  ·rw[List.getElem?_range' (by omega)]
   simp[List.getElem?_eq_getElem (show j<us.length by omega)]
  ·rw[List.getElem?_eq_none (by simp;omega),List.getElem?_eq_none (by omega)];rfl
 simp only[loadVar,Sem.run_bind,ha,hs,Result.andThen_ok,if_true,loadCells,this,e,Sem.run_pure]
 simp
theorem aU {w:World}{b:Nat}{t:TypeId}{us:List Value}{z:Nat×Nat}(h:w.heap[b]?=some (.cells us.toArray t z))(o:Nat):w.cell? ⟨b,o,none⟩=us[o]?:=by
 simp[World.cell?,h]
theorem wh {x:Operand}{i off:Nat}{cs:List AV}{v:AV}{e:TypeId}{av:AV}(hx:ge t x=some av)(hbx:gj av=some (i,off))(hi:look i σ=some (.cells cs))(hv:cs[off]?=some v)
 (ha:∀w,(isAgg e).run X.P w=.ok false w):QJ X ⟨d,.load e x,ty,pos,aft,g⟩ t σ (v):=
 QJ.value (by simp) (fun γ H a w so sm=>by
  have h1:=so _ (by simp[Op.operands,Call.operands]) _ hx
  have hq:=cR hbx h1
  obtain⟨tt,us,h2,h3,h4⟩:=sm.ent i _ hi
  have hlt:off<us.length:=by rw[h3];exact(List.getElem?_eq_some_iff.1 hv).1
  refine⟨us[off],?_,h4 off v _ hv (by simp[hlt])⟩
  have hc:w.cell? ⟨(γ i).b,off,none⟩=some us[off]:=by rw[aU h2];simp[hlt]
  simp[execOp,Instr.loadAt,Instr.sureAddr,hq,dC ha hc])
theorem wg {x:Operand}{i off n:Nat}{cs:List AV}{e:TypeId}{av:AV}(hx:ge t x=some av)(hbx:gj av=some (i,off))(hi:look i σ=some (.cells cs))(ha:∀w,(isAgg e).run X.P w=.ok true w)
 (hs:∀w,(sizeOf e).run X.P w=.ok n w)(hl:off+n≤cs.length):QJ X ⟨d,.load e x,ty,pos,aft,g⟩ t σ ((.agg ((cs.drop off).take n))):=
 QJ.value (by simp) (fun γ H a w so sm=>by
  have h1:=so _ (by simp[Op.operands,Call.operands]) _ hx
  have hq:=cR hbx h1
  obtain⟨tt,us,h2,h3,h4⟩:=sm.ent i _ hi
  refine⟨.agg ((us.drop off).take n).toArray,?_,.agg _ _ (by simp;omega) fun j a u h5 h6=>?_⟩
  ·have:=fW (P:=X.P) (w:=w) (b:=(γ i).b) (off:=off) (us:=(us.drop off).take n) ha hs (by simp;omega) (fun j hj=>by
    rw[aU h2,List.getElem?_take,if_pos hj,List.getElem?_drop])
   simp[execOp,Instr.loadAt,Instr.sureAddr,hq,this]
  ·rw[List.getElem?_take]at h5 h6
   split at h5
   ·next hj=>rw[if_pos hj]at h6;rw[List.getElem?_drop]at h5 h6;exact h4 _ a u h5 h6
   ·cases h5)
theorem gG {H:HF}{cs:List D}{u:Value}(h:RepD H (.ptr cs) u):∃b o,∃us:Nat→Value,u=.pointer (some ⟨b,o,none⟩)∧(∀j,j<cs.length→H.c b (o+j)=some (us j))∧
 ∀(j:Nat)(a:D),cs[j]?=some a→RepD H a (us j):=by
 cases h with
 |ptr _ b o us hc h=>exact⟨b,o,us,rfl,hc,h⟩
theorem AH {x:Operand}{cs:List D}{v:D}{e:TypeId}(hx:ge t x=some (.d (.ptr cs)))(hv:cs[0]?=some v)
 (ha:∀w,(isAgg e).run X.P w=.ok false w):QJ X ⟨d,.load e x,ty,pos,aft,g⟩ t σ ((.d v)):=
 QJ.value (by simp) (fun γ H a w so sm=>by
  obtain⟨b,o,us,h1,h2,h3⟩:=gG (eS (so _ (by simp[Op.operands,Call.operands]) _ hx))
  have hc:=sm.hok.c _ _ _ (h2 0 (List.getElem?_eq_some_iff.1 hv).1)
  simp only[Nat.add_zero]at hc
  refine⟨us 0,?_,.d _ _ (h3 0 v hv)⟩
  simp[execOp,Instr.loadAt,Instr.sureAddr,h1,dC ha hc])
theorem AG {x:Operand}{cs:List D}{n:Nat}{e:TypeId}(hx:ge t x=some (.d (.ptr cs)))(ha:∀w,(isAgg e).run X.P w=.ok true w)
 (hs:∀w,(sizeOf e).run X.P w=.ok n w)(hl:n≤cs.length):QJ X ⟨d,.load e x,ty,pos,aft,g⟩ t σ ((.agg ((cs.take n).map .d))):=
 QJ.value (by simp) (fun γ H a w so sm=>by
  obtain⟨b,o,us,h1,h2,h3⟩:=gG (eS (so _ (by simp[Op.operands,Call.operands]) _ hx))
  refine⟨.agg ((List.range n).map us).toArray,?_,.agg _ _ (by simp;omega) fun j a u h5 h6=>?_⟩
  ·have:=fW (P:=X.P) (w:=w) (b:=b) (off:=o) (us:=(List.range n).map us) ha hs (by simp) (fun j hj=>by
    rw[sm.hok.c _ _ _ (h2 j (by omega))];simp[hj])
   simp[execOp,Instr.loadAt,Instr.sureAddr,h1,this]
  ·simp only[List.getElem?_map,Option.map_eq_some_iff]at h5 h6
   obtain⟨c,hc,rfl⟩:=h5
   obtain⟨m,hm,rfl⟩:=h6
   have hj:j<n:=by
    by_cases hj:j<n
    ·exact hj
    ·simp[List.getElem?_take,hj]at hc
   rw[List.getElem?_take,if_pos hj]at hc
   have:m=j:=by simp[hj]at hm;exact hm.symm
   subst this
   exact .d _ _ (h3 _ c hc))
end mem
theorem lw {R:AV→Value→Prop}:∀(asz:List AV)(vs:List Value)(cs:List AV)(us:List Value)(p:Nat),us.length=cs.length→vs.length=asz.length→
 (∀(j:Nat)(x:AV)(y:Value),cs[j]?=some x→us[j]?=some y→R x y)→(∀(j:Nat)(x:AV)(y:Value),asz[j]?=some x→vs[j]?=some y→R x y)→
 ∀(j:Nat)(x:AV)(y:Value),(bI cs p asz)[j]?=some x→(bI us p vs)[j]?=some y→R x y
 |[],[],cs,us,p,_,_,h1,_,j,x,y,hx,hy=>h1 j x y hx hy
 |a::asz,v::vs,cs,us,p,hl,hv,h1,h2,j,x,y,hx,hy=>by
  refine lw asz vs (cs.set p a) (us.set p v) (p+1) (by simp[hl]) (by simpa using hv) ?_ (fun j x y hx hy=>h2 (j+1) x y (by simpa using hx) (by simpa using hy)) j x y hx hy
  intro j x y hx hy
  rw[List.getElem?_set]at hx hy
  split at hx
  ·next e=>
   subst e
   rw[if_pos rfl]at hy
   split at hx
   ·next hp=>
    rw[if_pos (by omega)]at hy
    simp only[Option.some.injEq]at hx hy
    subst hx;subst hy
    exact h2 0 a v (by simp) (by simp)
   ·cases hx
  ·next e=>rw[if_neg e]at hy;exact h1 j x y hx hy
 |[],v::vs,_,_,_,_,hv,_,_,_,_,_,_,_=>by simp at hv
 |a::asz,[],_,_,_,_,hv,_,_,_,_,_,_,_=>by simp at hv
theorem xy {γ:Ids}{H:HF}{a:AV}{us:List Value}(hl:us.length=(aE a).length)
 (hr:∀(j:Nat)(x:AV)(y:Value),(aE a)[j]?=some x→us[j]?=some y→Rep γ H x y)(h:gp (aE a)=true):∀v,v∈us→v.oneCell'=true:=by
 intro v hv
 obtain⟨j,hj,e⟩:=List.getElem_of_mem hv
 have hjl:j<(aE a).length:=by omega
 have h1:=hr j (aE a)[j] v (by simp[hjl]) (by simp[←e,hj])
 obtain⟨h2,h3⟩:=nH h (j:=j) (a:=(aE a)[j]) (by simp[hjl])
 exact Bu h1 h2 h3
theorem gk (b o n:Nat):(⟨b,o,none⟩:Addr).add n=⟨b,o+n,none⟩:=by
 unfold Addr.add;split<;>simp_all
section addr
variable {X:Cx} {d:Option Nat} {ty:TypeId} {pos:String} {aft:Array Edge} {g:Option (Nat×Bool)} {t:T} {σ:Sg} {K:T→Sg→Prop}
theorem pW {P:Program}{s:TypeId}{fs:Array Field}{fld:Nat}{f:Field}{n:Nat}{w:World}{b o:Nat}(hu:P.underlying s=some (.struct fs))(hf:fs[fld]?=some f)
 (hz:∀w,(sizeOf f.type).run P w=.ok n w)(hn:Nat.beq n 0=false):(Instr.fieldAt s (.pointer (some ⟨b,o,none⟩)) fld).run P w=.ok (.pointer (some ⟨b,o+f.offset,none⟩)) w:=by
 have hn':n≠0:=fun e=>by subst e;simp at hn
 simp[Instr.fieldAt,underlying,hu,hf,Instr.sureAddr,fieldPlace,hz,hn',gk]
def rQ:AV→Nat→AV
 |.box i off,n=>.box i (off+n)
 |.boxX i off,n=>.boxX i (off+n)
 |a,_=>a
theorem wL {γ:Ids}{H:HF}{av:AV}{i off n:Nat}(h:gj av=some (i,off)):Rep γ H (rQ av n) (.pointer (some ⟨(γ i).b,off+n,none⟩)):=by
 cases av<;>simp[gj]at h<;>obtain⟨rfl,rfl⟩:=h
 ·exact .box _ _
 ·exact .boxX _ _
theorem tB {s:TypeId}{x:Operand}{fld i off:Nat}{fs:Array Field}{f:Field}{n:Nat}{av:AV}(hx:ge t x=some av)(hbx:gj av=some (i,off))(hu:X.P.underlying s=some (.struct fs))(hf:fs[fld]?=some f)
 (hz:∀w,(sizeOf f.type).run X.P w=.ok n w)(hn:Nat.beq n 0=false):QJ X ⟨d,.fieldAddr s x fld,ty,pos,aft,g⟩ t σ (rQ av f.offset):=
 QJ.value (by simp) (fun γ H a w so sm=>by
  have h1:=so _ (by simp[Op.operands,Call.operands]) _ hx
  have hq:=cR hbx h1
  exact⟨_,by simp[execOp,hq,pW hu hf hz hn],wL hbx⟩)
theorem AK {s:TypeId}{x:Operand}{fld:Nat}{cs:List D}{fs:Array Field}{f:Field}{n:Nat}(hx:ge t x=some (.d (.ptr cs)))(hu:X.P.underlying s=some (.struct fs))(hf:fs[fld]?=some f)
 (hz:∀w,(sizeOf f.type).run X.P w=.ok n w)(hn:Nat.beq n 0=false):QJ X ⟨d,.fieldAddr s x fld,ty,pos,aft,g⟩ t σ ((.d (.ptr (cs.drop f.offset)))):=
 QJ.value (by simp) (fun γ H a w so sm=>by
  obtain⟨b,o,us,h1,h2,h3⟩:=gG (eS (so _ (by simp[Op.operands,Call.operands]) _ hx))
  refine⟨.pointer (some ⟨b,o+f.offset,none⟩),by simp[execOp,h1,pW hu hf hz hn],.d _ _ (.ptr _ _ _ (fun j=>us (f.offset+j)) (fun j hj=>?_) fun j a hj=>?_)⟩
  ·simp only[List.length_drop]at hj
   rw[Nat.add_assoc];exact h2 _ (by omega)
  ·rw[List.getElem?_drop]at hj;exact h3 _ a hj)
def elems:AV→Option (Nat×List (List D))
 |.d (.sl k xs)=>some (k,xs)
 |.full k xs=>some (k,xs)
 |_=>none
theorem dy {γ:Ids}{H:HF}{a:AV}{u:Value}{k:Nat}{xs:List (List D)}(r:Rep γ H a u)(h:elems a=some (k,xs)):RepD H (.sl k xs) u:=by
 cases r with
 |d x u hr=>cases x<;>simp[elems]at h;obtain⟨rfl,rfl⟩:=h;exact hr
 |full k xs A hr=>simp only[elems,Option.some.injEq,Prod.mk.injEq]at h;obtain⟨rfl,rfl⟩:=h;exact hr
 |_=>simp[elems]at h
theorem Dy {s e:TypeId}{x y:Operand}{av:AV}{k:Nat}{xs:List (List D)}{kk:IntKind}{m:Int}{cs:List D}(hx:ge t x=some av)(hy:ge t y=some (.d (.v (.int kk m))))(hel:elems av=some (k,xs))
 (hu:X.P.underlying s=some (.slice e))(hz:∀w,(sizeOf e).run X.P w=.ok k w)(hm:0≤m)(hc:xs[m.toNat]?=some cs):QJ X ⟨d,.indexAddr s x y,ty,pos,aft,g⟩ t σ ((.d (.ptr cs))):=
 QJ.value (by simp) (fun γ H a w so sm=>by
  have hr:=dy (so _ (by simp[Op.operands,Call.operands]) _ hx) hel
  have h2:=aV (so _ (by simp[Op.operands,Call.operands]) _ hy)
  generalize hq:a.eval x=q at hr
  cases hr with
  |sl _ _ A c b o us hk hn hcap hA hH hrep=>
   have hlt:m.toNat<xs.length:=(List.getElem?_eq_some_iff.1 hc).1
   have hA':=hA (by omega)
   subst hA'
   have hl:cs.length=k:=hk cs (aQ hc)
   refine⟨.pointer (some ⟨b,o+m.toNat*k,none⟩),?_,.d _ _ (.ptr _ _ _ (us m.toNat) (fun j hj=>?_) fun j a hj=>hrep _ _ cs a hc hj)⟩
   ·have hb:0≤m∧m<(xs.length:Int):=⟨hm,by omega⟩
    simp[execOp,hq,h2,Instr.indexAt,asIntOf,underlying,hu,hz,hb,gk]
   ·rw[hl]at hj
    have:=hH m.toNat j hlt hj
    exact this)
theorem Fm {s e:TypeId}{x y:Operand}{i k n:Nat}{kk:IntKind}{m:Int}(hx:ge t x=some (.arr i k n))(hy:ge t y=some (.d (.v (.int kk m))))
 (hu:X.P.underlying s=some (.slice e))(hz:∀w,(sizeOf e).run X.P w=.ok k w)(hm:0≤m)(hc:m.toNat<n):QJ X ⟨d,.indexAddr s x y,ty,pos,aft,g⟩ t σ ((.boxX i (m.toNat*k))):=
 QJ.value (by simp) (fun γ H a w so sm=>by
  have hr:=so _ (by simp[Op.operands,Call.operands]) _ hx
  have h2:=aV (so _ (by simp[Op.operands,Call.operands]) _ hy)
  generalize hq:a.eval x=q at hr
  cases hr with
  |arr _ _ _ A hn hA=>
   have hA':=hA (by omega)
   subst hA'
   refine⟨.pointer (some ⟨(γ i).b,m.toNat*k,none⟩),?_,.boxX i _⟩
   have hb:0≤m∧m<(n:Int):=⟨hm,by omega⟩
   simp[execOp,hq,h2,Instr.indexAt,asIntOf,underlying,hu,hz,hb,gk])
theorem uY {s e:TypeId}{x y:Operand}{i off k n:Nat}{kk:IntKind}{m:Int}{av:AV}(hx:ge t x=some av)(hbx:gj av=some (i,off))(hy:ge t y=some (.d (.v (.int kk m))))
 (hu:X.P.underlying s=some (.array n e))(hz:∀w,(sizeOf e).run X.P w=.ok k w)(hm:0≤m)(hc:m<(n:Int)):QJ X ⟨d,.indexAddr s x y,ty,pos,aft,g⟩ t σ ((.boxX i (off+m.toNat*k))):=
 QJ.value (by simp) (fun γ H a w so sm=>by
  have hr:=so _ (by simp[Op.operands,Call.operands]) _ hx
  have h2:=aV (so _ (by simp[Op.operands,Call.operands]) _ hy)
  have hq:=cR hbx hr
  refine⟨.pointer (some ⟨(γ i).b,off+m.toNat*k,none⟩),?_,.boxX i _⟩
  have hb:0≤m∧m<(n:Int):=⟨hm,hc⟩
  simp[execOp,hq,h2,Instr.indexAt,Instr.sureAddr,asIntOf,underlying,hu,hz,hb,gk])
theorem O.nilP {x:Operand}{cs:List D}(hx:ge t x=some (.d (.ptr cs))):QJ X ⟨d,.nilCheck x,ty,pos,aft,g⟩ t σ ((.d (.ptr cs))):=
 QJ.value (by simp) (fun γ H a w so sm=>by
  have hr:=so _ (by simp[Op.operands,Call.operands]) _ hx
  obtain⟨b,o,us,h1,_⟩:=gG (eS hr)
  exact⟨a.eval x,by simp[execOp,h1],hr⟩)
theorem AC {x:Operand}{i off:Nat}{av:AV}(hx:ge t x=some av)(hbx:gj av=some (i,off)):QJ X ⟨d,.nilCheck x,ty,pos,aft,g⟩ t σ av:=
 QJ.value (by simp) (fun γ H a w so sm=>by
  have hr:=so _ (by simp[Op.operands,Call.operands]) _ hx
  have hq:=cR hbx hr
  exact⟨a.eval x,by simp[execOp,hq],hr⟩)
theorem O.extract {x:Operand}{ix:Nat}{vs:List AV}{v:AV}(hx:ge t x=some (.tup vs))(hv:vs[ix]?=some v):QJ X ⟨d,.extract x ix,ty,pos,aft,g⟩ t σ (v):=
 QJ.value (by simp) (fun γ H a w so sm=>by
  have hr:=so _ (by simp[Op.operands,Call.operands]) _ hx
  generalize hq:a.eval x=q at hr
  cases hr with
  |tup _ us hl hr=>
   have hlt:ix<us.length:=by rw[hl];exact(List.getElem?_eq_some_iff.1 hv).1
   refine⟨us[ix],?_,hr ix v _ hv (by simp[hlt])⟩
   simp[execOp,hq,Instr.extract,hlt])
theorem CZ {x:Operand}{i off:Nat}{k:Nat}{xs:List (List D)}{cs:List D}{v:D}{e:TypeId}{j l:Nat}{av:AV}(hx:ge t x=some av)(hbx:gj av=some (i,off))(hi:look i σ=some (.arr k xs))(hj:off=j*k+l)(hv:xs[j]?=some cs)(hl:cs[l]?=some v)
 (ha:∀w,(isAgg e).run X.P w=.ok false w):QJ X ⟨d,.load e x,ty,pos,aft,g⟩ t σ ((.d v)):=
 QJ.value (by simp) (fun γ H a w so sm=>by
  have h1:=so _ (by simp[Op.operands,Call.operands]) _ hx
  have hq:=cR hbx h1
  obtain⟨hle,hk,h2⟩:=sm.ent i _ hi
  have hjl:j<xs.length:=(List.getElem?_eq_some_iff.1 hv).1
  have hll:l<k:=by rw[←hk cs (aQ hv)];exact(List.getElem?_eq_some_iff.1 hl).1
  obtain⟨tt,us,h3,h4,h5⟩:=h2 (by omega)
  have hoff:off<us.length:=by
   rw[h4,hj]
   calc j*k+l<j*k+k:=by omega
    _=(j+1)*k:=by rw[Nat.add_mul];omega
    _≤(γ i).n*k:=Nat.mul_le_mul_right _ (by omega)
  refine⟨us[off],?_,.d _ _ (h5 j l cs v _ hv hl (by rw[←hj];simp[hoff]))⟩
  have hc:w.cell? ⟨(γ i).b,off,none⟩=some us[off]:=by rw[aU h3];simp[hoff]
  simp[execOp,Instr.loadAt,Instr.sureAddr,hq,dC ha hc])
end addr
end Go.Gv
end
section
namespace Go.Gv
open Go.RowKit
def Spl (b:Bool)(A B:Prop):Prop:=(b=true→A)∧(b=false→B)
theorem Spl.of {b:Bool}{A B:Prop}(h:b=true→A)(k:b=false→B):Spl b A B:=⟨h,k⟩
theorem Spl.t {b:Bool}{A B:Prop}(e:b=true)(h:A):Spl b A B:=⟨fun _=>h,(fun h'=>by rw[e]at h';cases h')⟩
theorem Spl.f {b:Bool}{A B:Prop}(e:b=false)(h:B):Spl b A B:=⟨(fun h'=>by rw[e]at h';cases h'),fun _=>h⟩
def Req (p A:Prop):Prop:=p∧A
theorem Req.of {p A:Prop}(h:p)(k:A):Req p A:=⟨h,k⟩
def IdxP (m:Int)(xs:List (List D))(K:List D→Prop):Prop:=∃cs,0≤m∧xs[m.toNat]?=some cs∧K cs
theorem IdxP.of {m:Int}{xs:List (List D)}{K:List D→Prop}(cs:List D)(h0:0≤m)(h:xs[m.toNat]?=some cs)(k:K cs):IdxP m xs K:=⟨cs,h0,h,k⟩
def ByteP (m:Int)(l:List UInt8)(K:UInt8→Prop):Prop:=∃b,0≤m∧l[m.toNat]?=some b∧K b
theorem ByteP.of {m:Int}{l:List UInt8}{K:UInt8→Prop}(b:UInt8)(h0:0≤m)(h:l[m.toNat]?=some b)(k:K b):ByteP m l K:=⟨b,h0,h,k⟩
def CellP (off:Nat)(cs:List AV)(K:AV→Prop):Prop:=∃v,cs[off]?=some v∧K v
theorem CellP.of {off:Nat}{cs:List AV}{K:AV→Prop}(v:AV)(h:cs[off]?=some v)(k:K v):CellP off cs K:=⟨v,h,k⟩
def CellsP (off n:Nat)(cs:List AV)(K:List AV→Prop):Prop:=∃ds,off+n≤cs.length∧(cs.drop off).take n=ds∧K ds
theorem CellsP.of {off n:Nat}{cs:List AV}{K:List AV→Prop}(ds:List AV)(h:off+n≤cs.length)(e:(cs.drop off).take n=ds)(k:K ds):CellsP off n cs K:=⟨ds,h,e,k⟩
def ArrP (off k:Nat)(xs:List (List D))(K:D→Prop):Prop:=∃j l cs v,off=j*k+l∧xs[j]?=some cs∧cs[l]?=some v∧K v
theorem ArrP.of {off k:Nat}{xs:List (List D)}{K:D→Prop}(j l:Nat)(cs:List D)(v:D)(h:off=j*k+l)(h1:xs[j]?=some cs)(h2:cs[l]?=some v)(kk:K v):ArrP off k xs K:=⟨j,l,cs,v,h,h1,h2,kk⟩
def ArrsP (off n k:Nat)(xs:List (List D))(K:List D→Prop):Prop:=∃j l cs ds,off=j*k+l∧xs[j]?=some cs∧l+n≤cs.length∧(cs.drop l).take n=ds∧K ds
theorem ArrsP.of {off n k:Nat}{xs:List (List D)}{K:List D→Prop}(j l:Nat)(cs ds:List D)(h:off=j*k+l)(h1:xs[j]?=some cs)(h2:l+n≤cs.length)(h3:(cs.drop l).take n=ds)(kk:K ds):ArrsP off n k xs K:=
 ⟨j,l,cs,ds,h,h1,h2,h3,kk⟩
def DropP (off n:Nat)(cs:List D)(K:List D→Prop):Prop:=∃ds,cs.drop off=ds∧n≤ds.length∧K ds
theorem DropP.of {off n:Nat}{cs:List D}{K:List D→Prop}(ds:List D)(e:cs.drop off=ds)(h:n≤ds.length)(k:K ds):DropP off n cs K:=⟨ds,e,h,k⟩
def und (P:Program)(s:TypeId):Option TypeDesc:=Program.casesOn P fun T fs=>Program.underlying ⟨T,fs⟩ s
theorem bT (P:Program)(s:TypeId):und P s=P.underlying s:=by cases P;rfl
def inf (P:Program)(s:TypeId):Option TypeInfo:=Program.casesOn P fun T _=>T.info? s
theorem ob (P:Program)(s:TypeId):inf P s=P.info? s:=by cases P;rfl
def jk (P:Program)(e:TypeId):Option Bool:=match und P e with
 |some (.struct _)=>some true
 |some (.array _ _)=>some true
 |some _=>some false
 |none=>none
theorem bK {P:Program}{e:TypeId}{b:Bool}(h:jk P e=some b)(w:World):(isAgg e).run P w=.ok b w:=by
 simp only[jk,bT]at h
 simp only[isAgg,Sem.run_bind]
 split at h
 ·next d hd=>cases h;simp[run_underlying hd]
 ·next d hd=>cases h;simp[run_underlying hd]
 ·next d h1 h2 hd=>
  cases h
  simp only[run_underlying hd,Result.andThen_ok]
  cases d<;>simp_all
 ·cases h
def fu (P:Program)(e:TypeId):Option Nat:=match inf P e with
 |some i=>some i.size
 |none=>none
theorem aK {P:Program}{e:TypeId}{n:Nat}(h:fu P e=some n)(w:World):(sizeOf e).run P w=.ok n w:=by
 simp only[fu,ob]at h
 split at h
 ·next i hi=>cases h;simp[sizeOf,typeInfo,hi]
 ·cases h
def dV (P:Program)(e:TypeId):Option Value:=match inf P e with
 |some i=>i.zero
 |none=>none
theorem bL {P:Program}{e:TypeId}{z:Value}(h:dV P e=some z)(w:World):(zeroValue e).run P w=.ok z w:=by
 simp only[dV,ob]at h
 split at h
 ·next i hi=>simp[zeroValue,typeInfo,hi,h]
 ·cases h
def kEq:IntKind→IntKind→Bool
 |.i8,.i8|.i16,.i16|.i32,.i32|.i64,.i64|.u8,.u8|.u16,.u16|.u32,.u32|.u64,.u64=>true
 |_,_=>false
theorem n0 {a b:IntKind}(h:kEq a b=true):a=b:=by cases a<;>cases b<;>first|rfl|cases h
def eK (op:BinOp)(isNil:Bool)(K:Value→Prop)(F:Prop):Prop:=match op with
 |.eql=>K (.bool isNil)
 |.neq=>K (.bool (!isNil))
 |_=>F
def rP (k:IntKind)(a b:Int):Int:=k.wrap (a*2^(min b.toNat k.bits))
def jL (k:IntKind)(a b:Int):Int:=a.fdiv (2^(min b.toNat k.bits))
def oW (k:IntKind)(a b:Int):Int:=k.wrap (BitVec.ofInt k.bits a &&& BitVec.ofInt k.bits b).toNat
def orI (k:IntKind)(a b:Int):Int:=k.wrap (BitVec.ofInt k.bits a ||| BitVec.ofInt k.bits b).toNat
def Gs (k:IntKind)(a b:Int):Int:=k.wrap (BitVec.ofInt k.bits a ^^^ BitVec.ofInt k.bits b).toNat
def Em (op:BinOp)(k k':IntKind)(a b:Int)(K:Value→Prop)(F:Prop):Prop:=match op with
 |.shl=>Req (0≤b) (K (.int k (rP k a b)))
 |.shr=>Req (0≤b) (K (.int k (jL k a b)))
 |_=>match kEq k k' with
  |false=>F
  |true=>match op with
   |.add=>K (.int k (k.wrap (a+b)))
   |.sub=>K (.int k (k.wrap (a-b)))
   |.mul=>K (.int k (k.wrap (a*b)))
   |.quo=>Req (b≠0) (K (.int k (k.wrap (a.tdiv b))))
   |.rem=>Req (b≠0) (K (.int k (a.tmod b)))
   |.and=>K (.int k (oW k a b))
   |.or=>K (.int k (orI k a b))
   |.xor=>K (.int k (Gs k a b))
   |.eql=>K (.bool (decide (a=b)))
   |.neq=>K (.bool (!decide (a=b)))
   |.lss=>K (.bool (decide (a<b)))
   |.leq=>K (.bool (decide (a≤b)))
   |.gtr=>K (.bool (decide (b<a)))
   |.geq=>K (.bool (decide (b≤a)))
   |_=>F
def EC (P:Program)(op:BinOp)(ot:TypeId)(x y:Value)(K:Value→Prop)(F:Prop):Prop:=match x,y with
 |.int k a,.int k' b=>Em op k k' a b K F
 |.string ⟨⟨a⟩⟩,.string ⟨⟨b⟩⟩=>(match op with
  |.add=>Req (a.length+b.length≤9223372036854775807) (K (.string ⟨⟨a++b⟩⟩))
  |.eql=>K (.bool (decide (a=b)))
  |.neq=>K (.bool (!decide (a=b)))
  |_=>F)
 |.bool a,.bool b=>(match und P ot with
  |some .bool=>(match op with
   |.eql=>K (.bool (a==b))
   |.neq=>K (.bool (!(a==b)))
   |_=>F)
  |_=>F)
 |.pointer none,.pointer none=>(match und P ot with
  |some (.pointer _)=>eK op true K F
  |_=>F)
 |.nilFunc,.nilFunc=>(match und P ot with
  |some (.func _ _ _)=>eK op true K F
  |_=>F)
 |.slice none 0 0,.slice none 0 0=>(match und P ot with
  |some (.slice _)=>eK op true K F
  |_=>F)
 |.map none,.map none=>(match und P ot with
  |some (.map _ _)=>eK op true K F
  |_=>F)
 |_,_=>F
def ki (P:Program)(op:BinOp)(ot:TypeId)(x y:Value)(v:Value):Prop:=v.oneCell'=true∧∀(ox oy:Operand)(w:World),(do eqGuard op ot ox oy x y;binOp op ot x y:Sem Value).run P w=.ok v w
theorem uo {P:Program}{op:BinOp}{ot:TypeId}{k k':IntKind}{a b:Int}{K:Value→Prop}{F:Prop}(h:Em op k k' a b K F):(∃v,ki P op ot (.int k a) (.int k' b) v∧K v)∨F:=by
 unfold Em at h
 split at h
 ·exact .inl ⟨_,⟨rfl,fun _ _ w=>by(have:¬b<0:=(by have:=h.1;omega));simp[eqGuard,binOp,Op.shift,this,rP,jL]⟩,h.2⟩
 ·exact .inl ⟨_,⟨rfl,fun _ _ w=>by(have:¬b<0:=(by have:=h.1;omega));simp[eqGuard,binOp,Op.shift,this,rP,jL]⟩,h.2⟩
 ·split at h
  ·exact .inr h
  ·next hk=>
   obtain rfl:=n0 hk
   split at h
   ·exact .inl ⟨_,⟨rfl,fun _ _ w=>by simp[eqGuard,binOp,Op.intArith]⟩,h⟩
   ·exact .inl ⟨_,⟨rfl,fun _ _ w=>by simp[eqGuard,binOp,Op.intArith]⟩,h⟩
   ·exact .inl ⟨_,⟨rfl,fun _ _ w=>by simp[eqGuard,binOp,Op.intArith]⟩,h⟩
   ·exact .inl ⟨_,⟨rfl,fun _ _ w=>by simp[eqGuard,binOp,Op.intDiv,h.1]⟩,h.2⟩
   ·exact .inl ⟨_,⟨rfl,fun _ _ w=>by simp[eqGuard,binOp,Op.intDiv,h.1]⟩,h.2⟩
   ·exact .inl ⟨_,⟨rfl,fun _ _ w=>by simp only[eqGuard,binOp];simp;rfl⟩,h⟩
   ·exact .inl ⟨_,⟨rfl,fun _ _ w=>by simp only[eqGuard,binOp];simp;rfl⟩,h⟩
   ·exact .inl ⟨_,⟨rfl,fun _ _ w=>by simp only[eqGuard,binOp];simp;rfl⟩,h⟩
   ·exact .inl ⟨_,⟨rfl,fun _ _ w=>by simp[eqGuard,binOp,Op.intCmp];by_cases e:a=b<;>simp[e]⟩,h⟩
   ·exact .inl ⟨_,⟨rfl,fun _ _ w=>by simp[eqGuard,binOp,Op.intCmp];by_cases e:a=b<;>simp[e]⟩,h⟩
   ·exact .inl ⟨_,⟨rfl,fun _ _ w=>by simp[eqGuard,binOp,Op.intCmp]⟩,h⟩
   ·exact .inl ⟨_,⟨rfl,fun _ _ w=>by simp[eqGuard,binOp,Op.intCmp]⟩,h⟩
   ·exact .inl ⟨_,⟨rfl,fun _ _ w=>by simp[eqGuard,binOp,Op.intCmp]⟩,h⟩
   ·exact .inl ⟨_,⟨rfl,fun _ _ w=>by simp[eqGuard,binOp,Op.intCmp]⟩,h⟩
   ·exact .inr h
theorem eX {P:Program}{op:BinOp}{ot:TypeId}{x y:Value}{b:Bool}{K:Value→Prop}{F:Prop}(h:eK op b K F)
 (he:∀(ox oy:Operand)(w:World),(do eqGuard .eql ot ox oy x y;binOp .eql ot x y:Sem Value).run P w=.ok (.bool b) w)
 (hn:∀(ox oy:Operand)(w:World),(do eqGuard .neq ot ox oy x y;binOp .neq ot x y:Sem Value).run P w=.ok (.bool (!b)) w):(∃v,ki P op ot x y v∧K v)∨F:=by
 unfold eK at h
 split at h
 ·exact .inl ⟨_,⟨rfl,he⟩,h⟩
 ·exact .inl ⟨_,⟨rfl,hn⟩,h⟩
 ·exact .inr h
section
variable {P:Program} {tt e k:TypeId} {w:World} (n:Nat)
theorem B7 (hu:P.underlying tt=some (.pointer e)):(Op.equalIn (n+1) tt (.pointer none) (.pointer none)).run P w=.ok true w:=by simp[Op.equalIn,underlying,hu]
theorem zA {a:Addr}(hu:P.underlying tt=some (.pointer e)):(Op.equalIn (n+1) tt (.pointer (some a)) (.pointer none)).run P w=.ok false w:=by simp[Op.equalIn,underlying,hu]
theorem zC {ps rs:Array TypeId}{b:Bool}(hu:P.underlying tt=some (.func ps rs b)):(Op.equalIn (n+1) tt .nilFunc .nilFunc).run P w=.ok true w:=by simp[Op.equalIn,underlying,hu]
theorem xn {ps rs:Array TypeId}{b:Bool}{f:Go.Fn}{xs ys:Array Value}(hu:P.underlying tt=some (.func ps rs b)):(Op.equalIn (n+1) tt (.func f xs ys) .nilFunc).run P w=.ok false w:=by simp[Op.equalIn,underlying,hu]
theorem xm {a b:Nat}(hu:P.underlying tt=some (.slice e)):(Op.equalIn (n+1) tt (.slice none a b) (.slice none 0 0)).run P w=.ok true w:=by simp[Op.equalIn,underlying,hu]
theorem uC {ms:Array (String×TypeId)}{ti:TypeId}{v:Value}(hu:P.underlying tt=some (.interface ms)):(Op.equalIn (n+1) tt (.iface ti v) .nilIface).run P w=.ok false w:=by simp[Op.equalIn,underlying,hu]
theorem B8 (hu:P.underlying tt=some (.map k e)):(Op.equalIn (n+1) tt (.map none) (.map none)).run P w=.ok true w:=by simp[Op.equalIn,underlying,hu]
theorem zB {b:Nat}(hu:P.underlying tt=some (.map k e)):(Op.equalIn (n+1) tt (.map (some b)) (.map none)).run P w=.ok false w:=by simp[Op.equalIn,underlying,hu]
end
theorem cK {P:Program}{tt:TypeId}{x y:Value}{w:World}:(Op.equal tt x y).run P w=(Op.equalIn (9999+1) tt x y).run P w:=rfl
theorem uK {P:Program}{op:BinOp}{ot:TypeId}{x y:Value}{K:Value→Prop}{F:Prop}(h:EC P op ot x y K F):(∃v,ki P op ot x y v∧K v)∨F:=by
 simp only[EC,bT]at h
 split at h
 ·exact uo h
 ·next a b=>
  split at h
  ·refine .inl ⟨_,⟨rfl,fun ox oy w=>?_⟩,h.2⟩
   have h1:=h.1
   have:¬((((⟨⟨a⟩⟩:ByteArray).size+(⟨⟨b⟩⟩:ByteArray).size:Nat):Int)>IntKind.i64.max):=by
    have:IntKind.i64.max=9223372036854775807:=by decide
    simp only[ByteArray.size,List.size_toArray]
    omega
   have e:(⟨⟨a⟩⟩:ByteArray)++⟨⟨b⟩⟩=⟨⟨a++b⟩⟩:=by
    apply ByteArray.ext
    simp[ByteArray.data_append]
   simp only[eqGuard,binOp,Op.stringOp,this,if_false,e]
   simp
  ·exact .inl ⟨_,⟨rfl,fun ox oy w=>by simp[eqGuard,binOp,Op.stringOp,ByteArray.toList_eq];by_cases e:a=b<;>simp[e]⟩,h⟩
  ·exact .inl ⟨_,⟨rfl,fun ox oy w=>by simp[eqGuard,binOp,Op.stringOp,ByteArray.toList_eq];by_cases e:a=b<;>simp[e]⟩,h⟩
  ·exact .inr h
 ·next a b=>
  split at h
  ·next hu=>
   have he:∀w,(Op.equal ot (.bool a) (.bool b)).run P w=.ok (a==b) w:=fun w=>by rw[cK];exact run_equalIn_bool' w _ ot a b hu
   split at h
   ·exact .inl ⟨_,⟨rfl,fun ox oy w=>by simp[eqGuard,binOp,he]⟩,h⟩
   ·exact .inl ⟨_,⟨rfl,fun ox oy w=>by simp[eqGuard,binOp,he]⟩,h⟩
   ·exact .inr h
  ·exact .inr h
 ·split at h
  ·next hu=>
   have he:∀w,(Op.equal ot _ _).run P w=.ok true w:=fun w=>cK.trans (B7 9999 hu)
   exact eX h (fun ox oy w=>by simp[eqGuard,binOp,he]) (fun ox oy w=>by simp[eqGuard,binOp,he])
  ·exact .inr h
 ·split at h
  ·next hu=>
   have he:∀w,(Op.equal ot _ _).run P w=.ok true w:=fun w=>cK.trans (zC 9999 hu)
   exact eX h (fun ox oy w=>by simp[eqGuard,binOp,he]) (fun ox oy w=>by simp[eqGuard,binOp,he])
  ·exact .inr h
 ·split at h
  ·next hu=>
   have he:∀w,(Op.equal ot _ _).run P w=.ok true w:=fun w=>cK.trans (xm (a:=0) (b:=0) 9999 hu)
   exact eX h (fun ox oy w=>by simp[eqGuard,binOp,he]) (fun ox oy w=>by simp[eqGuard,binOp,he])
  ·exact .inr h
 ·split at h
  ·next hu=>
   have he:∀w,(Op.equal ot _ _).run P w=.ok true w:=fun w=>cK.trans (B8 9999 hu)
   exact eX h (fun ox oy w=>by simp[eqGuard,binOp,he]) (fun ox oy w=>by simp[eqGuard,binOp,he])
  ·exact .inr h
 ·exact .inr h
end Go.Gv
end
section
namespace Go.Gv
open Go.RowKit
abbrev rd (K:AV→Prop):Value→Prop:=fun v=>K (.d (.v v))
def vn:AV→Value→Bool
 |.d (.ptr _),.pointer none=>true
 |.box _ _,.pointer none=>true
 |.boxX _ _,.pointer none=>true
 |.d (.fn _ _),.nilFunc=>true
 |.fnp _ _,.nilFunc=>true
 |.d (.mp _ _ _),.map none=>true
 |.mp _,.map none=>true
 |.d (.ifc _ _),.nilIface=>true
 |.d (.ifa _ _),.nilIface=>true
 |_,_=>false
def Ea (P:Program)(op:BinOp)(ot:TypeId):Value→(Value→Prop)→Prop→Prop
 |.pointer none,K,F=>(match und P ot with|some (.pointer _)=>eK op false K F|_=>F)
 |.nilFunc,K,F=>(match und P ot with|some (.func _ _ _)=>eK op false K F|_=>F)
 |.map none,K,F=>(match und P ot with|some (.map _ _)=>eK op false K F|_=>F)
 |.nilIface,K,F=>(match und P ot with|some (.interface _)=>eK op false K F|_=>F)
 |_,_,F=>F
def DY (X:Cx)(op:BinOp)(ot:TypeId)(x y:Operand)(t:T)(K:AV→Prop)(F:Prop):Prop:=
 match ge t x,ge t y with
 |some (.d (.v a)),some (.d (.v b))=>EC X.P op ot a b (rd K) F
 |some a,some (.d (.v b))=>(match vn a b with|true=>Ea X.P op ot b (rd K) F|false=>F)
 |_,_=>F
def qUn (op:UnOp)(x:Operand)(t:T)(K:AV→Prop)(F:Prop):Prop:=
 match ge t x with
 |some (.d (.v (.int k a)))=>(match op with
  |.neg=>rd K (.int k (k.wrap (0-a)))
  |_=>F)
 |some (.d (.v (.bool b)))=>(match op with
  |.not=>rd K (.bool (!b))
  |_=>F)
 |_=>F
def yN (X:Cx)(src dst:TypeId)(x:Operand)(t:T)(K:AV→Prop)(F:Prop):Prop:=
 match und X.P src,und X.P dst,ge t x with
 |some _,some (.int k),some (.d (.v (.int _ a)))=>rd K (.int k (k.wrap a))
 |some _,some (.float k),some (.d (.v (.int _ a)))=>rd K (.float k (k.nearest a))
 |some _,some .string,some (.d (.v (.int _ a)))=>rd K (.string ⟨⟨(Utf8.encode a).data.toList⟩⟩)
 |some _,some .string,some (.d (.v (.string s)))=>rd K (.string s)
 |_,_,_=>F
def vi {α:Type}:List α→List α→List α
 |l,[]=>l
 |[],_::_=>[]
 |_::l,v::vs=>v::vi l vs
def Bp {α:Type}:List α→Nat→List α→List α
 |l,0,vs=>vi l vs
 |[],_+1,_=>[]
 |a::l,n+1,vs=>a::Bp l n vs
theorem lx {α:Type}(a:α):∀(vs l:List α)(p:Nat),bI (a::l) (p+1) vs=a::bI l p vs
 |[],l,p=>rfl
 |v::vs,l,p=>by
  show bI ((a::l).set (p+1) v) (p+1+1) vs=a::bI (l.set p v) (p+1) vs
  rw[List.set_cons_succ,lx a vs]
theorem nu {α:Type}:∀(vs:List α)(p:Nat),bI ([]:List α) p vs=[]
 |[],p=>rfl
 |v::vs,p=>by show bI (([]:List α).set p v) (p+1) vs=[];rw[List.set_nil,nu vs]
theorem sa {α:Type}:∀(l vs:List α),vi l vs=bI l 0 vs
 |[],[]=>rfl
 |_::_,[]=>rfl
 |[],v::vs=>by rw[nu];rfl
 |a::l,v::vs=>by
  show v::vi l vs=bI ((a::l).set 0 v) 1 vs
  rw[List.set_cons_zero,lx,sa]
theorem qp {α:Type}:∀(l:List α)(p:Nat)(vs:List α),Bp l p vs=bI l p vs
 |l,0,vs=>by cases l<;>exact sa _ _
 |[],p+1,vs=>by rw[nu];rfl
 |a::l,p+1,vs=>by rw[lx,←qp l p vs];rfl
def xj {α:Type}:Nat→List α→(List α→Prop)→Prop
 |0,l,K=>K l
 |_+1,[],K=>K []
 |n+1,a::l,K=>xj n l fun l'=>K (a::l')
theorem mX {α:Type}:∀(n:Nat)(l:List α)(K:List α→Prop),xj n l K=K l
 |0,l,K=>rfl
 |_+1,[],K=>rfl
 |n+1,a::l,K=>mX n l _
def yL (X:Cx)(e:TypeId)(x:Operand)(t:T)(σ:Sg)(K:AV→Prop)(F:Prop):Prop:=
 match jk X.P e,fu X.P e,ge t x with
 |some false,some _,some (.box i off)=>(match look i σ with
  |some (.cells cs)=>(match cs[off]? with
   |some v=>K v
   |none=>F)
  |_=>F)
 |some true,some n,some (.box i off)=>(match look i σ with
  |some (.cells cs)=>(match Nat.ble (off+n) cs.length with
   |true=>xj n ((cs.drop off).take n) fun l=>K (.agg l)
   |false=>F)
  |_=>F)
 |some false,some _,some (.boxX i off)=>(match look i σ with
  |some (.cells cs)=>CellP off cs K
  |some (.arr k xs)=>ArrP off k xs fun v=>K (.d v)
  |_=>F)
 |some true,some n,some (.boxX i off)=>(match look i σ with
  |some (.cells cs)=>CellsP off n cs fun ds=>K (.agg ds)
  |some (.arr k xs)=>ArrsP off n k xs fun ds=>K (.agg (ds.map .d))
  |_=>F)
 |some false,some _,some (.d (.ptr cs))=>(match cs with
  |v::_=>K (.d v)
  |[]=>F)
 |some true,some n,some (.d (.ptr cs))=>(match Nat.ble n cs.length with
  |true=>xj n ((cs.take n).map .d) fun l=>K (.agg l)
  |false=>F)
 |_,_,_=>F
def jZ (X:Cx)(s:TypeId)(x:Operand)(fld:Nat)(t:T)(K:AV→Prop)(F:Prop):Prop:=
 match und X.P s with
 |some (.struct fs)=>(match fs[fld]? with
  |some f=>(match fu X.P f.type with
   |some (_+1)=>(match ge t x with
    |some (.d (.ptr cs))=>K (.d (.ptr (cs.drop f.offset)))
    |some (.box i off)=>K (.box i (off+f.offset))
    |some (.boxX i off)=>K (.boxX i (off+f.offset))
    |_=>F)
   |_=>F)
  |none=>F)
 |_=>F
def t8 (X:Cx)(s:TypeId)(x:Operand)(fld:Nat)(t:T)(K:AV→Prop)(F:Prop):Prop:=
 match und X.P s with
 |some (.struct fs)=>(match fs[fld]? with
  |some f=>(match jk X.P f.type,fu X.P f.type,ge t x with
   |some false,_,some (.agg cs)=>(match cs[f.offset]? with
    |some v=>K v
    |none=>F)
   |some true,some n,some (.agg cs)=>(match Nat.ble (f.offset+n) cs.length with
    |true=>K (.agg ((cs.drop f.offset).take n))
    |false=>F)
   |_,_,_=>F)
  |none=>F)
 |_=>F
def y9:Operand→Option Nat
 |.const (.int _ (.ofNat n))=>some n
 |_=>none
def jY (X:Cx)(s:TypeId)(x y:Operand)(t:T)(K:AV→Prop)(F:Prop):Prop:=
 match und X.P s,ge t x,ge t y with
 |some (.slice e),some a,some (.d (.v (.int _ m)))=>(match fu X.P e with
  |some k=>(match a with
   |.d (.sl k' xs)=>(match Nat.beq k k' with|true=>IdxP m xs fun cs=>K (.d (.ptr cs))|false=>F)
   |.full k' xs=>(match Nat.beq k k' with|true=>IdxP m xs fun cs=>K (.d (.ptr cs))|false=>F)
   |.arr i k' n=>(match Nat.beq k k' with|true=>Req (0≤m∧m<(n:Int)) (K (.boxX i (m.toNat*k)))|false=>F)
   |_=>F)
  |none=>F)
 |some (.array n e),some a,some (.d (.v (.int _ m)))=>(match fu X.P e with
  |some k=>(match a,y9 y with
   |.box i off,some j=>(match Nat.blt j n with|true=>K (.box i (off+j*k))|false=>F)
   |.box i off,none=>Req (0≤m∧m<(n:Int)) (K (.boxX i (off+m.toNat*k)))
   |.boxX i off,_=>Req (0≤m∧m<(n:Int)) (K (.boxX i (off+m.toNat*k)))
   |.d (.ptr cs),some j=>(match Nat.blt j n with|true=>K (.d (.ptr (cs.drop (j*k))))|false=>F)
   |.d (.ptr cs),none=>Req (0≤m∧m<(n:Int)) (DropP (m.toNat*k) k cs fun ds=>K (.d (.ptr ds)))
   |_,_=>F)
  |none=>F)
 |_,_,_=>F
def t6 (X:Cx)(s:TypeId)(x y:Operand)(t:T)(K:AV→Prop)(F:Prop):Prop:=
 match und X.P s,ge t x,ge t y with
 |some .string,some (.d (.v (.string ⟨⟨l⟩⟩))),some (.d (.v (.int _ m)))=>ByteP m l fun b=>rd K (.int .u8 b.toNat)
 |some (.array n e),some (.agg cs),some (.d (.v (.int _ m)))=>(match jk X.P e,fu X.P e with
  |some false,some k=>Req (0≤m∧m<(n:Int)) (CellP (m.toNat*k) cs K)
  |some true,some k=>Req (0≤m∧m<(n:Int)) (CellsP (m.toNat*k) k cs fun ds=>K (.agg ds))
  |_,_=>F)
 |_,_,_=>F
def DX (x:Operand)(t:T)(K:AV→Prop)(F:Prop):Prop:=
 match ge t x with
 |some (.box i off)=>K (.box i off)
 |some (.boxX i off)=>K (.boxX i off)
 |some (.d (.ptr cs))=>K (.d (.ptr cs))
 |some (.d (.fn f cs))=>K (.d (.fn f cs))
 |some (.fnp f cs)=>K (.fnp f cs)
 |_=>F
def nB (x:Operand)(ix:Nat)(t:T)(K:AV→Prop)(F:Prop):Prop:=
 match ge t x with
 |some (.tup vs)=>(match vs[ix]? with
  |some v=>K v
  |none=>F)
 |_=>F
def dOf:AV→Option D
 |.d x=>some x
 |.full k xs=>some (.sl k xs)
 |_=>none
theorem fk {γ:Ids}{H:HF}{a:AV}{x:D}{u:Value}(h:dOf a=some x)(r:Rep γ H a u):RepD H x u:=by
 cases r with
 |d y u hr=>simp only[dOf,Option.some.injEq]at h;subst h;exact hr
 |full k xs A hr=>simp only[dOf,Option.some.injEq]at h;subst h;exact hr
 |_=>simp[dOf]at h
def fO:List AV→Option (List D)
 |[]=>some []
 |a::r=>match dOf a with
  |some x=>match fO r with
   |some s=>some (x::s)
   |none=>none
  |none=>none
theorem fE:∀{cs:List AV}{ds:List D},fO cs=some ds→ds.length=cs.length∧∀(j:Nat)(x:D),ds[j]?=some x→∃a,cs[j]?=some a∧dOf a=some x
 |[],ds,h=>by simp only[fO,Option.some.injEq]at h;subst h;simp
 |a::r,ds,h=>by
  simp only[fO]at h
  split at h
  ·next x hx=>
   split at h
   ·next s hs=>
    simp only[Option.some.injEq]at h;subst h
    obtain⟨h1,h2⟩:=fE hs
    refine⟨by simp[h1],fun j y hy=>?_⟩
    cases j with
    |zero=>simp at hy;subst hy;exact⟨a,rfl,hx⟩
    |succ j=>simpa using h2 j y (by simpa using hy)
   ·cases h
  ·cases h
theorem k8 {γ:Ids}{H:HF}{cs:List AV}{ds:List D}{us:List Value}(h:fO cs=some ds)(hl:us.length=cs.length)(hr:∀(j:Nat)(a:AV)(u:Value),cs[j]?=some a→us[j]?=some u→Rep γ H a u):
 us.length=ds.length∧∀(j:Nat)(a:D)(u:Value),ds[j]?=some a→us[j]?=some u→RepD H a u:=by
 obtain⟨h1,h2⟩:=fE h
 refine⟨by omega,fun j a u ha hu=>?_⟩
 obtain⟨x,hx,hd⟩:=h2 j a ha
 exact fk hd (hr j x u hx hu)
def t7 (X:Cx)(xt:TypeId)(x:Operand)(t:T)(K:AV→Prop)(F:Prop):Prop:=
 match und X.P xt with
 |some (.interface _)=>F
 |some _=>(match ge t x with
  |some (.d v)=>K (.d (.ifc xt v))
  |some (.agg cs)=>(match fO cs with
   |some ds=>K (.d (.ifa xt ds))
   |none=>F)
  |_=>F)
 |none=>F
def yM (fn:Go.Fn)(first caps:Array Operand)(t:T)(K:AV→Prop)(F:Prop):Prop:=
 match fn,first with
 |.func f,⟨[]⟩=>(match iE t caps.toList with
  |some asz=>(match fO asz with
   |some ds=>K (.d (.fn f ds))
   |none=>K (.fnp f asz))
  |none=>F)
 |_,_=>F
def qF (X:Cx)(x:Operand)(asz:TypeId)(ok:Bool)(t:T)(K:AV→Prop)(F:Prop):Prop:=
 match und X.P asz,dV X.P asz with
 |some (.interface _),_=>F
 |some _,some z=>(match ge t x with
  |some (.d (.ifc tt v))=>(match Nat.beq tt asz,ok with
   |true,true=>K (.tup [.d v,.d (.v (.bool true))])
   |true,false=>K (.d v)
   |false,true=>K (.tup [bo z,.d (.v (.bool false))])
   |false,false=>F)
  |some (.d (.ifa tt cs))=>(match Nat.beq tt asz,ok with
   |true,true=>K (.tup [.agg (cs.map .d),.d (.v (.bool true))])
   |true,false=>K (.agg (cs.map .d))
   |false,true=>K (.tup [bo z,.d (.v (.bool false))])
   |false,false=>F)
  |some (.d (.v .nilIface))=>(match ok with
   |true=>K (.tup [bo z,.d (.v (.bool false))])
   |false=>F)
  |_=>F)
 |_,_=>F
def nD (X:Cx)(b:Builtin)(args:Array Operand)(tys:Array TypeId)(t:T)(K:AV→Prop)(F:Prop):Prop:=
 match b,args,tys with
 |.len,⟨[x]⟩,⟨[tt]⟩=>(match und X.P tt,ge t x with
  |some (.slice _),some a=>(match jN a with
   |some n=>rd K (.int .i64 n)
   |none=>F)
  |some .string,some (.d (.v (.string ⟨⟨l⟩⟩)))=>rd K (.int .i64 l.length)
  |some (.array n _),some _=>rd K (.int .i64 n)
  |_,_=>F)
 |.max,⟨[x,y]⟩,_=>(match ge t x,ge t y with
  |some (.d (.v (.int k a))),some (.d (.v (.int _ b)))=>rd K (.int k (if b>a then b else a))
  |_,_=>F)
 |.min,⟨[x,y]⟩,_=>(match ge t x,ge t y with
  |some (.d (.v (.int k a))),some (.d (.v (.int _ b)))=>rd K (.int k (if b<a then b else a))
  |_,_=>F)
 |.real,⟨[x]⟩,_=>(match ge t x with
  |some (.d (.v (.complex k re _)))=>rd K (.float k re)
  |_=>F)
 |.imag,⟨[x]⟩,_=>(match ge t x with
  |some (.d (.v (.complex k _ im)))=>rd K (.float k im)
  |_=>F)
 |_,_,_=>F
def loV (t:T):Option Operand→Option Int
 |none=>some 0
 |some o=>match ge t o with
  |some (.d (.v (.int _ l)))=>some l
  |_=>none
def hiV (t:T)(n:Nat):Option Operand→Option Int
 |none=>some n
 |some o=>match ge t o with
  |some (.d (.v (.int _ l)))=>some l
  |_=>none
def tY (X:Cx)(st:TypeId)(x:Operand)(lo hi mx:Option Operand)(t:T)(K:AV→Prop)(F:Prop):Prop:=
 match und X.P st,ge t x,mx with
 |some .string,some (.d (.v (.string ⟨⟨s⟩⟩))),none=>(match loV t lo,hiV t s.length hi with
  |some l,some h=>Req (0≤l∧l≤h∧h≤(s.length:Int)) (rd K (.string ⟨⟨(s.take h.toNat).drop l.toNat⟩⟩))
  |_,_=>F)
 |some (.slice e),some a,none=>(match elems a,fu X.P e with
  |some (k,xs),some k'=>(match Nat.beq k k',loV t lo,hiV t xs.length hi with
   |true,some l,some h=>Req (0≤l∧l≤h∧h≤(xs.length:Int)) (K (.d (.sl k ((xs.take h.toNat).drop l.toNat))))
   |_,_,_=>F)
  |_,_=>F)
 |some (.slice e),some a,some m=>(match elems a,fu X.P e with
  |some (k,xs),some k'=>(match Nat.beq k k',loV t lo,hi,ge t m with
   |true,some l,some ho,some (.d (.v (.int _ mm)))=>(match ge t ho with
    |some (.d (.v (.int _ h)))=>Req (0≤l∧l≤h∧h≤(xs.length:Int)∧mm=h) (K (.full k ((xs.take h.toNat).drop l.toNat)))
    |_=>F)
   |_,_,_,_=>F)
  |_,_=>F)
 |_,_,_=>F
def qv (X:Cx)(o:Oper)(t:T)(σ:Sg)(K:AV→Prop)(F:Prop):Prop:=
 match o.op with
 |.move x=>(match ge t x with|some v=>K v|none=>F)
 |.assign x=>(match ge t x with|some v=>K v|none=>F)
 |.pick c x y=>(match ge t c with
  |some (.d (.v (.bool true)))=>(match ge t x with|some v=>K v|none=>F)
  |some (.d (.v (.bool false)))=>(match ge t y with|some v=>K v|none=>F)
  |_=>F)
 |.binOp op ot x y _=>DY X op ot x y t K F
 |.unOp op _ x=>qUn op x t K F
 |.convert src dst x=>yN X src dst x t K F
 |.load e x=>yL X e x t σ K F
 |.fieldAddr s x f=>jZ X s x f t K F
 |.field s x f=>t8 X s x f t K F
 |.indexAddr s x y=>jY X s x y t K F
 |.index s x y=>t6 X s x y t K F
 |.nilCheck x=>DX x t K F
 |.extract x ix=>nB x ix t K F
 |.makeInterface xt x=>t7 X xt x t K F
 |.makeFunc fn first caps=>yM fn first caps t K F
 |.typeAssert x _ asz ok=>qF X x asz ok t K F
 |.slice st x lo hi mx=>tY X st x lo hi mx t K F
 |.call ⟨.builtin b,args,tys⟩=>nD X b args tys t K F
 |_=>F
end Go.Gv
end
section
namespace Go.Gv
open Go.RowKit
section
variable {X:Cx} {d:Option Nat} {ty:TypeId} {pos:String} {aft:Array Edge} {g:Option (Nat×Bool)} {t:T} {σ:Sg} {K:AV→Prop} {F:Prop}
def bR (X:Cx)(o:Oper)(t:T)(σ:Sg)(K:AV→Prop)(F:Prop):Prop:=(∃V,QJ X o t σ V∧K V)∨F
theorem wi {op:BinOp}{ot yt:TypeId}{x y:Operand}{vx vy v:Value}(hx:ge t x=some (.d (.v vx)))(hy:ge t y=some (.d (.v vy)))(hv:ki X.P op ot vx vy v):QJ X ⟨d,.binOp op ot x y yt,ty,pos,aft,g⟩ t σ (.d (.v v)):=
 QJ.value (by simp) (fun γ H a w so sm=>by
  have h1:=aV (so _ (by simp[Op.operands]) _ hx)
  have h2:=aV (so _ (by simp[Op.operands]) _ hy)
  refine⟨v,?_,.d _ _ (.v v hv.1)⟩
  have:=hv.2 x y w
  simp only[execOp,h1,h2]
  simp only[Sem.run_bind]at this ⊢
  rw[this];rfl)
def pd:Value→Value→Prop
 |u,.pointer none=>∃p,u=.pointer (some p)
 |u,.nilFunc=>∃f xs ys,u=.func f xs ys
 |u,.map none=>∃p,u=.map (some p)
 |u,.nilIface=>∃ti v,u=.iface ti v
 |_,_=>False
theorem wM {γ:Ids}{H:HF}{a:AV}{b u:Value}(h:vn a b=true)(r:Rep γ H a u):pd u b:=by
 unfold vn at h
 split at h
 ·cases r with|d _ _ hr=>cases hr;exact⟨_,rfl⟩
 ·cases r;exact⟨_,rfl⟩
 ·cases r;exact⟨_,rfl⟩
 ·cases r with|d _ _ hr=>cases hr;exact⟨_,_,_,rfl⟩
 ·cases r;exact⟨_,_,_,rfl⟩
 ·cases r with|d _ _ hr=>cases hr;exact⟨_,rfl⟩
 ·cases r;exact⟨_,rfl⟩
 ·cases r with|d _ _ hr=>cases hr;exact⟨_,_,rfl⟩
 ·cases r with|d _ _ hr=>cases hr;exact⟨_,_,rfl⟩
 ·cases h
theorem uj {op:BinOp}{ot yt:TypeId}{x y:Operand}{a:AV}{b:Value}(hx:ge t x=some a)(hn:vn a b=true)(hy:ge t y=some (.d (.v b)))(h:Ea X.P op ot b (rd K) F):bR X ⟨d,.binOp op ot x y yt,ty,pos,aft,g⟩ t σ K F:=by
 have fin:∀(b':Bool),(∀u,pd u b→ki X.P op ot u b (.bool b'))→K (.d (.v (.bool b')))→bR X ⟨d,.binOp op ot x y yt,ty,pos,aft,g⟩ t σ K F:=fun b' h2 hk=>
  .inl ⟨_,QJ.value (by simp) (fun γ H ac w so sm=>by
   have e1:=so _ (by simp[Op.operands]) _ hx
   have e2:=aV (so _ (by simp[Op.operands]) _ hy)
   have hv:=h2 _ (wM hn e1)
   refine⟨.bool b',?_,.d _ _ (.v _ rfl)⟩
   have:=hv.2 x y w
   simp only[execOp,e2]
   simp only[Sem.run_bind]at this ⊢
   rw[this];rfl),hk⟩
 have two:∀(he:∀u w,pd u b→(Op.equal ot u b).run X.P w=.ok false w)(hg:∀op ox oy u w,pd u b→(eqGuard op ot ox oy u b).run X.P w=.ok () w)(hb:∀u,pd u b→binOp .eql ot u b=(do pure (.bool (←Op.equal ot u b)))∧binOp .neq ot u b=(do pure (.bool (!(←Op.equal ot u b))))),
  eK op false (rd K) F→bR X ⟨d,.binOp op ot x y yt,ty,pos,aft,g⟩ t σ K F:=fun he hg hb h=>by
  unfold eK at h
  split at h
  ·exact fin false (fun u hu=>⟨rfl,fun ox oy w=>by rw[(hb u hu).1];simp[hg _ _ _ _ _ hu,he u w hu]⟩) h
  ·exact fin true (fun u hu=>⟨rfl,fun ox oy w=>by rw[(hb u hu).2];simp[hg _ _ _ _ _ hu,he u w hu]⟩) h
  ·exact .inr h
 unfold Ea at h
 simp only[bT]at h
 split at h
 ·split at h
  ·next hu=>
   exact two (fun u w ⟨p,e⟩=>by subst e;exact cK.trans (zA 9999 hu)) (fun op ox oy u w ⟨p,e⟩=>by subst e;unfold eqGuard;split<;>simp) (fun u ⟨p,e⟩=>by subst e;exact⟨rfl,rfl⟩) h
  ·exact .inr h
 ·split at h
  ·next hu=>
   exact two (fun u w ⟨f,xs,ys,e⟩=>by subst e;exact cK.trans (xn 9999 hu)) (fun op ox oy u w ⟨f,xs,ys,e⟩=>by subst e;unfold eqGuard;split<;>simp) (fun u ⟨f,xs,ys,e⟩=>by subst e;exact⟨rfl,rfl⟩) h
  ·exact .inr h
 ·split at h
  ·next hu=>
   exact two (fun u w ⟨p,e⟩=>by subst e;exact cK.trans (zB 9999 hu)) (fun op ox oy u w ⟨p,e⟩=>by subst e;unfold eqGuard;split<;>simp) (fun u ⟨p,e⟩=>by subst e;exact⟨rfl,rfl⟩) h
  ·exact .inr h
 ·split at h
  ·next hu=>
   exact two (fun u w ⟨p,v,e⟩=>by subst e;exact cK.trans (uC 9999 hu)) (fun op ox oy u w ⟨p,v,e⟩=>by subst e;unfold eqGuard;split<;>simp) (fun u ⟨p,v,e⟩=>by subst e;exact⟨rfl,rfl⟩) h
  ·exact .inr h
 ·exact .inr h
theorem ua {op:BinOp}{ot yt:TypeId}{x y:Operand}(h:DY X op ot x y t K F):bR X ⟨d,.binOp op ot x y yt,ty,pos,aft,g⟩ t σ K F:=by
 unfold DY at h
 split at h
 ·next a b hx hy=>
  rcases uK h with⟨v,hv,hk⟩|h
  ·exact .inl ⟨_,wi hx hy hv,hk⟩
  ·exact .inr h
 ·next a b _ hx hy=>
  split at h
  ·next hn=>exact uj hx hn hy h
  ·exact .inr h
 ·exact .inr h
theorem wS {op:UnOp}{ot:TypeId}{x:Operand}(h:qUn op x t K F):bR X ⟨d,.unOp op ot x,ty,pos,aft,g⟩ t σ K F:=by
 unfold qUn at h
 split at h
 ·next k a hx=>
  split at h
  ·exact .inl ⟨_,O.un hx (fun w=>rfl) rfl,h⟩
  ·exact .inr h
 ·next b hx=>
  split at h
  ·exact .inl ⟨_,O.un hx (fun w=>rfl) rfl,h⟩
  ·exact .inr h
 ·exact .inr h
theorem r6 {src dst:TypeId}{x:Operand}(h:yN X src dst x t K F):bR X ⟨d,.convert src dst x,ty,pos,aft,g⟩ t σ K F:=by
 unfold yN at h
 simp only[bT]at h
 split at h
 ·next hs hd hx=>exact .inl ⟨_,O.conv hx (fun w=>by simp[convert,run_underlying hs,run_underlying hd,Conv.intToInt]) rfl,h⟩
 ·next hs hd hx=>exact .inl ⟨_,O.conv hx (fun w=>by simp[convert,run_underlying hs,run_underlying hd,Conv.intToFloat]) rfl,h⟩
 ·next hs hd hx=>exact .inl ⟨_,O.conv hx (fun w=>by simp[convert,run_underlying hs,run_underlying hd,Conv.intToString]) rfl,h⟩
 ·next hs hd hx=>exact .inl ⟨_,O.conv hx (fun w=>by simp[convert,run_underlying hs,run_underlying hd]) rfl,h⟩
 ·exact .inr h
end
end Go.Gv
end
section
namespace Go.Gv
open Go.RowKit
section
variable {X:Cx} {d:Option Nat} {ty:TypeId} {pos:String} {aft:Array Edge} {g:Option (Nat×Bool)} {t:T} {σ:Sg} {K:AV→Prop} {F:Prop}
theorem AI {x:Operand}{i off n:Nat}{k:Nat}{xs:List (List D)}{cs:List D}{e:TypeId}{j l:Nat}{av:AV}(hx:ge t x=some av)(hbx:gj av=some (i,off))(hi:look i σ=some (.arr k xs))(hj:off=j*k+l)(hv:xs[j]?=some cs)(hl:l+n≤cs.length)
 (ha:∀w,(isAgg e).run X.P w=.ok true w)(hs:∀w,(sizeOf e).run X.P w=.ok n w):QJ X ⟨d,.load e x,ty,pos,aft,g⟩ t σ (.agg (((cs.drop l).take n).map .d)):=
 QJ.value (by simp) (fun γ H a w so sm=>by
  have h1:=so _ (by simp[Op.operands]) _ hx
  have hq:=cR hbx h1
  obtain⟨hle,hk,h2⟩:=sm.ent i _ hi
  have hjl:j<xs.length:=(List.getElem?_eq_some_iff.1 hv).1
  have hck:cs.length=k:=hk cs (aQ hv)
  obtain⟨tt,us,h3,h4,h5⟩:=h2 (by omega)
  have hbase:∀m,m<k→j*k+m<us.length:=fun m hm=>by
   rw[h4]
   calc j*k+m<j*k+k:=by omega
    _=(j+1)*k:=by rw[Nat.add_mul];omega
    _≤(γ i).n*k:=Nat.mul_le_mul_right _ (by omega)
  refine⟨.agg ((us.drop off).take n).toArray,?_,.agg _ _ ?_ fun m b u hb hu=>?_⟩
  ·have:=fW (P:=X.P) (w:=w) (b:=(γ i).b) (off:=off) (us:=(us.drop off).take n) ha hs (by
    simp only[List.length_take,List.length_drop]
    by_cases h0:n=0
    ·omega
    ·have:=hbase (l+n-1) (by omega);omega) (fun m hm=>by
    rw[aU h3,List.getElem?_take,if_pos hm,List.getElem?_drop])
   simp[execOp,Instr.loadAt,Instr.sureAddr,hq,this]
  ·simp only[List.length_take,List.length_drop,List.length_map]
   by_cases h0:n=0
   ·omega
   ·have:=hbase (l+n-1) (by omega);omega
  ·simp only[List.getElem?_map,Option.map_eq_some_iff]at hb
   obtain⟨y,hy,rfl⟩:=hb
   rw[List.getElem?_take]at hy hu
   split at hy
   ·next hm=>
    rw[if_pos hm]at hu
    rw[List.getElem?_drop]at hy hu
    refine .d _ _ (h5 j (l+m) cs y u hv hy ?_)
    rw[←hu];congr 1;omega
   ·cases hy)
theorem r4 {e:TypeId}{x:Operand}(h:yL X e x t σ K F):bR X ⟨d,.load e x,ty,pos,aft,g⟩ t σ K F:=by
 unfold yL at h
 simp only[mX]at h
 split at h
 ·next n i off ha hs hx=>
  split at h
  ·next cs hi=>
   split at h
   ·next v hv=>exact .inl ⟨_,wh hx rfl hi hv (bK ha),h⟩
   ·exact .inr h
  ·exact .inr h
 ·next n i off ha hs hx=>
  split at h
  ·next cs hi=>
   split at h
   ·next hb=>exact .inl ⟨_,wg hx rfl hi (bK ha) (aK hs) (Nat.le_of_ble_eq_true hb),h⟩
   ·exact .inr h
  ·exact .inr h
 ·next n i off ha hs hx=>
  split at h
  ·next cs hi=>
   obtain⟨v,hv,h⟩:=h
   exact .inl ⟨_,wh hx rfl hi hv (bK ha),h⟩
  ·next k xs hi=>
   obtain⟨j,l,cs,v,h1,h2,h3,h⟩:=h
   exact .inl ⟨_,CZ hx rfl hi h1 h2 h3 (bK ha),h⟩
  ·exact .inr h
 ·next n i off ha hs hx=>
  split at h
  ·next cs hi=>
   obtain⟨ds,hle,rfl,h⟩:=h
   exact .inl ⟨_,wg hx rfl hi (bK ha) (aK hs) hle,h⟩
  ·next k xs hi=>
   obtain⟨j,l,cs,ds,h1,h2,h3,rfl,h⟩:=h
   exact .inl ⟨_,AI hx rfl hi h1 h2 h3 (bK ha) (aK hs),h⟩
  ·exact .inr h
 ·next n cs ha hs hx=>
  split at h
  ·exact .inl ⟨_,AH hx rfl (bK ha),h⟩
  ·exact .inr h
 ·next n cs ha hs hx=>
  split at h
  ·next hb=>exact .inl ⟨_,AG hx (bK ha) (aK hs) (Nat.le_of_ble_eq_true hb),h⟩
  ·exact .inr h
 ·exact .inr h
theorem lD {s:TypeId}{x:Operand}{fld:Nat}(h:jZ X s x fld t K F):bR X ⟨d,.fieldAddr s x fld,ty,pos,aft,g⟩ t σ K F:=by
 unfold jZ at h
 simp only[bT]at h
 split at h
 ·next fs hu=>
  split at h
  ·next f hf=>
   split at h
   ·next n hs=>
    split at h
    ·next cs hx=>exact .inl ⟨_,AK hx hu hf (aK hs) rfl,h⟩
    ·next i off hx=>exact .inl ⟨_,tB hx rfl hu hf (aK hs) rfl,h⟩
    ·next i off hx=>exact .inl ⟨_,tB hx rfl hu hf (aK hs) rfl,h⟩
    ·exact .inr h
   ·exact .inr h
  ·exact .inr h
 ·exact .inr h
theorem kz {γ:Ids}{H:HF}{cs:List AV}{u:Value}(r:Rep γ H (.agg cs) u):∃us:List Value,u=.agg us.toArray∧us.length=cs.length∧∀(j:Nat)(a:AV)(v:Value),cs[j]?=some a→us[j]?=some v→Rep γ H a v:=by
 cases r with
 |agg _ us hl h=>exact⟨us,rfl,hl,h⟩
theorem pD {P:Program}{e:TypeId}(ha:jk P e=some false){us:List Value}{off:Nat}{v:Value}{w:World}(h:us[off]?=some v):(part e us.toArray off).run P w=.ok v w:=by
 simp[part,bK ha,h]
theorem nG {P:Program}{e:TypeId}{n:Nat}(ha:jk P e=some true)(hs:fu P e=some n){us:List Value}{off:Nat}{w:World}:(part e us.toArray off).run P w=.ok (.agg ((us.drop off).take n).toArray) w:=by
 have:us.toArray.extract off (off+n)=((us.drop off).take n).toArray:=by
  apply Array.toList_inj.1
  simp
 simp[part,bK ha,aK hs,this]
theorem qt {γ:Ids}{H:HF}{cs:List AV}{us:List Value}{off n:Nat}(hl:us.length=cs.length)(h:∀(j:Nat)(a:AV)(v:Value),cs[j]?=some a→us[j]?=some v→Rep γ H a v):
 Rep γ H (.agg ((cs.drop off).take n)) (.agg ((us.drop off).take n).toArray):=by
 refine .agg _ _ (by simp[hl]) fun j a u h5 h6=>?_
 rw[List.getElem?_take]at h5 h6
 split at h5
 ·next hj=>rw[if_pos hj]at h6;rw[List.getElem?_drop]at h5 h6;exact h _ a u h5 h6
 ·cases h5
theorem qD {s:TypeId}{x:Operand}{fld:Nat}(h:t8 X s x fld t K F):bR X ⟨d,.field s x fld,ty,pos,aft,g⟩ t σ K F:=by
 unfold t8 at h
 simp only[bT]at h
 split at h
 ·next fs hu=>
  split at h
  ·next f hf=>
   split at h
   ·next cs ha hx=>
    split at h
    ·next v hv=>
     refine .inl ⟨_,QJ.value (by simp) (fun γ H a w so sm=>?_),h⟩
     obtain⟨us,e,hl,hr⟩:=kz (so _ (by simp[Op.operands]) _ hx)
     have hlt:f.offset<us.length:=by rw[hl];exact(List.getElem?_eq_some_iff.1 hv).1
     refine⟨us[f.offset],?_,hr _ v _ hv (by simp[hlt])⟩
     simp[execOp,Instr.field,run_underlying hu,hf,e,asAgg,pD ha (List.getElem?_eq_getElem hlt)]
    ·exact .inr h
   ·next n cs ha hs hx=>
    split at h
    ·next hb=>
     refine .inl ⟨_,QJ.value (by simp) (fun γ H a w so sm=>?_),h⟩
     obtain⟨us,e,hl,hr⟩:=kz (so _ (by simp[Op.operands]) _ hx)
     refine⟨_,?_,qt hl hr⟩
     simp[execOp,Instr.field,run_underlying hu,hf,e,asAgg,nG ha hs]
    ·exact .inr h
   ·exact .inr h
  ·exact .inr h
 ·exact .inr h
theorem mh {y:Operand}{j:Nat}(h:y9 y=some j):∃k,y=.const (.int k (.ofNat j)):=by
 unfold y9 at h
 split at h
 ·cases h;exact⟨_,rfl⟩
 ·cases h
theorem tA {s e:TypeId}{x y:Operand}{cs:List D}{k n:Nat}{kk:IntKind}{m:Int}(hx:ge t x=some (.d (.ptr cs)))(hy:ge t y=some (.d (.v (.int kk m))))
 (hu:X.P.underlying s=some (.array n e))(hz:∀w,(sizeOf e).run X.P w=.ok k w)(hm:0≤m)(hc:m<(n:Int)):QJ X ⟨d,.indexAddr s x y,ty,pos,aft,g⟩ t σ (.d (.ptr (cs.drop (m.toNat*k)))):=
 QJ.value (by simp) (fun γ H a w so sm=>by
  obtain⟨b,o,us,h1,h2,h3⟩:=gG (eS (so _ (by simp[Op.operands]) _ hx))
  have h4:=aV (so _ (by simp[Op.operands]) _ hy)
  refine⟨.pointer (some ⟨b,o+m.toNat*k,none⟩),?_,.d _ _ (.ptr _ _ _ (fun j=>us (m.toNat*k+j)) (fun j hj=>?_) fun j a hj=>?_)⟩
  ·have hb:0≤m∧m<(n:Int):=⟨hm,hc⟩
   simp[execOp,h1,h4,Instr.indexAt,Instr.sureAddr,asIntOf,underlying,hu,hz,hb,gk]
  ·simp only[List.length_drop]at hj
   rw[Nat.add_assoc];exact h2 _ (by omega)
  ·rw[List.getElem?_drop]at hj;exact h3 _ a hj)
theorem lC {s:TypeId}{x y:Operand}(h:jY X s x y t K F):bR X ⟨d,.indexAddr s x y,ty,pos,aft,g⟩ t σ K F:=by
 unfold jY at h
 simp only[bT]at h
 split at h
 ·next e a kk m hu hx hy=>
  split at h
  ·next k hs=>
   split at h
   ·next k' xs=>
    split at h
    ·next hk=>
     obtain rfl:=Nat.eq_of_beq_eq_true hk
     obtain⟨cs,h0,h1,h⟩:=h
     exact .inl ⟨_,Dy hx hy rfl hu (aK hs) h0 h1,h⟩
    ·exact .inr h
   ·next k' xs=>
    split at h
    ·next hk=>
     obtain rfl:=Nat.eq_of_beq_eq_true hk
     obtain⟨cs,h0,h1,h⟩:=h
     exact .inl ⟨_,Dy hx hy rfl hu (aK hs) h0 h1,h⟩
    ·exact .inr h
   ·next i k' n=>
    split at h
    ·next hk=>
     obtain rfl:=Nat.eq_of_beq_eq_true hk
     obtain⟨h0,h⟩:=h
     exact .inl ⟨_,Fm hx hy hu (aK hs) h0.1 (by omega),h⟩
    ·exact .inr h
   ·exact .inr h
  ·exact .inr h
 ·next n e a kk m hu hx hy=>
  split at h
  ·next k hs=>
   split at h
   ·next i off j hj=>
    split at h
    ·next hb=>
     obtain⟨k2,rfl⟩:=mh hj
     simp only[ge,bo,Option.some.injEq,AV.d.injEq,D.v.injEq,Value.int.injEq]at hy
     obtain⟨rfl,rfl⟩:=hy
     simp only[Nat.blt_eq]at hb
     exact .inl ⟨_,QJ.view (uY (m:=Int.ofNat j) hx rfl rfl hu (aK hs) (by simp) (by simpa using hb)) (fun γ H u r=>by cases r;exact .box _ _),h⟩
    ·exact .inr h
   ·next i off _=>exact .inl ⟨_,uY hx rfl hy hu (aK hs) h.1.1 h.1.2,h.2⟩
   ·next i off=>exact .inl ⟨_,uY hx rfl hy hu (aK hs) h.1.1 h.1.2,h.2⟩
   ·next cs j hj=>
    split at h
    ·next hb=>
     obtain⟨k2,rfl⟩:=mh hj
     simp only[ge,bo,Option.some.injEq,AV.d.injEq,D.v.injEq,Value.int.injEq]at hy
     obtain⟨rfl,rfl⟩:=hy
     simp only[Nat.blt_eq]at hb
     exact .inl ⟨_,tA (m:=Int.ofNat j) hx rfl hu (aK hs) (by simp) (by simpa using hb),h⟩
    ·exact .inr h
   ·next cs _=>
    obtain⟨h0,ds,rfl,_,h⟩:=h
    exact .inl ⟨_,tA hx hy hu (aK hs) h0.1 h0.2,h⟩
   ·exact .inr h
  ·exact .inr h
 ·exact .inr h
theorem qB {s:TypeId}{x y:Operand}(h:t6 X s x y t K F):bR X ⟨d,.index s x y,ty,pos,aft,g⟩ t σ K F:=by
 unfold t6 at h
 simp only[bT]at h
 split at h
 ·next l kk m hu hx hy=>
  obtain⟨b,h0,hb,h⟩:=h
  refine .inl ⟨_,QJ.value (by simp) (fun γ H a w so sm=>?_),h⟩
  have e1:=aV (so _ (by simp[Op.operands]) _ hx)
  have e2:=aV (so _ (by simp[Op.operands]) _ hy)
  refine⟨.int .u8 b.toNat,?_,.d _ _ (.v _ rfl)⟩
  have hg:(⟨⟨l⟩⟩:ByteArray)[m.toNat]?=some b:=by
   have hlt:m.toNat<l.length:=(List.getElem?_eq_some_iff.1 hb).1
   have hlt':m.toNat<(⟨⟨l⟩⟩:ByteArray).size:=by simpa[ByteArray.size]using hlt
   rw[getElem?_pos (⟨⟨l⟩⟩:ByteArray) m.toNat hlt']
   have:=(List.getElem?_eq_some_iff.1 hb).2
   simpa[ByteArray.getElem_eq_getElem_data]using this
  simp[execOp,Instr.index,e1,e2,asIntOf,run_underlying hu,h0,hg]
 ·next n e cs kk m hu hx hy=>
  split at h
  ·next k ha hs=>
   obtain⟨h0,v,hv,h⟩:=h
   refine .inl ⟨_,QJ.value (by simp) (fun γ H a w so sm=>?_),h⟩
   obtain⟨us,e1,hl,hr⟩:=kz (so _ (by simp[Op.operands]) _ hx)
   have e2:=aV (so _ (by simp[Op.operands]) _ hy)
   have hlt:m.toNat*k<us.length:=by rw[hl];exact(List.getElem?_eq_some_iff.1 hv).1
   refine⟨us[m.toNat*k],?_,hr _ v _ hv (by simp[hlt])⟩
   simp[execOp,Instr.index,e1,e2,asIntOf,run_underlying hu,h0.1,h0.2,aK hs,pD ha (List.getElem?_eq_getElem hlt)]
  ·next k ha hs=>
   obtain⟨h0,ds,hle,rfl,h⟩:=h
   refine .inl ⟨_,QJ.value (by simp) (fun γ H a w so sm=>?_),h⟩
   obtain⟨us,e1,hl,hr⟩:=kz (so _ (by simp[Op.operands]) _ hx)
   have e2:=aV (so _ (by simp[Op.operands]) _ hy)
   refine⟨_,?_,qt hl hr⟩
   simp[execOp,Instr.index,e1,e2,asIntOf,run_underlying hu,h0.1,h0.2,aK hs,nG ha hs]
  ·exact .inr h
 ·exact .inr h
theorem tZ {x:Operand}(h:DX x t K F):bR X ⟨d,.nilCheck x,ty,pos,aft,g⟩ t σ K F:=by
 unfold DX at h
 split at h
 ·next hx=>exact .inl ⟨_,AC hx rfl,h⟩
 ·next hx=>exact .inl ⟨_,AC hx rfl,h⟩
 ·next hx=>exact .inl ⟨_,O.nilP hx,h⟩
 ·next f cs hx=>
  refine .inl ⟨_,QJ.value (by simp) (fun γ H a w so sm=>?_),h⟩
  have r:=so _ (by simp[Op.operands]) _ hx
  refine⟨a.eval x,?_,r⟩
  generalize hq:a.eval x=q at r
  cases r with|d _ _ hr=>cases hr;simp[execOp,hq]
 ·next f cs hx=>
  refine .inl ⟨_,QJ.value (by simp) (fun γ H a w so sm=>?_),h⟩
  have r:=so _ (by simp[Op.operands]) _ hx
  refine⟨a.eval x,?_,r⟩
  generalize hq:a.eval x=q at r
  cases r;simp[execOp,hq]
 ·exact .inr h
theorem nA {x:Operand}{ix:Nat}(h:nB x ix t K F):bR X ⟨d,.extract x ix,ty,pos,aft,g⟩ t σ K F:=by
 unfold nB at h
 split at h
 ·next vs hx=>
  split at h
  ·next v hv=>exact .inl ⟨_,O.extract hx hv,h⟩
  ·exact .inr h
 ·exact .inr h
theorem qC {xt:TypeId}{x:Operand}(h:t7 X xt x t K F):bR X ⟨d,.makeInterface xt x,ty,pos,aft,g⟩ t σ K F:=by
 unfold t7 at h
 simp only[bT]at h
 split at h
 ·exact .inr h
 ·next td hni hu=>
  have hrun:∀v w,(Instr.makeInterface xt v).run X.P w=.ok (.iface xt v) w:=fun v w=>by
   simp only[Instr.makeInterface,Sem.run_bind,run_underlying hu,Result.andThen_ok]
   cases td<;>simp_all
  split at h
  ·next v hx=>
   refine .inl ⟨_,QJ.value (by simp) (fun γ H a w so sm=>?_),h⟩
   exact⟨.iface xt (a.eval x),by simp[execOp,hrun],.d _ _ (.ifc xt v _ (eS (so _ (by simp[Op.operands]) _ hx)))⟩
  ·next cs hx=>
   split at h
   ·next ds hd=>
    refine .inl ⟨_,QJ.value (by simp) (fun γ H a w so sm=>?_),h⟩
    obtain⟨us,e1,hl,hr⟩:=kz (so _ (by simp[Op.operands]) _ hx)
    obtain⟨h1,h2⟩:=k8 hd hl hr
    exact⟨.iface xt (a.eval x),by simp[execOp,hrun],by rw[e1];exact .d _ _ (.ifa xt ds us h1 h2)⟩
   ·exact .inr h
  ·exact .inr h
 ·exact .inr h
theorem r5 {fn:Go.Fn}{first caps:Array Operand}(h:yM fn first caps t K F):bR X ⟨d,.makeFunc fn first caps,ty,pos,aft,g⟩ t σ K F:=by
 unfold yM at h
 split at h
 ·next f=>
  split at h
  ·next asz ha=>
   have rep:∀(γ:Ids)(H:HF)(a:Act),(∀x,x∈(Op.makeFunc (.func f) ⟨[]⟩ caps).operands→∀v,ge t x=some v→Rep γ H v (a.eval x))→(caps.toList.map a.eval).length=asz.length∧∀(j:Nat)(y:AV)(u:Value),asz[j]?=some y→(caps.toList.map a.eval)[j]?=some u→Rep γ H y u:=fun γ H a so=>
    ⟨by have:=congrArg List.length (bE ha);simpa using this,ga (fun x hx v hv=>so x (by simp[Op.operands];simpa using hx) v hv) (bE ha)⟩
   have run:∀(a:Act) w,(execOp a.eval ⟨d,.makeFunc (.func f) ⟨[]⟩ caps,ty,pos,aft,g⟩).run X.P w=.ok (.value (.func (.func f) #[] (caps.toList.map a.eval).toArray)) w:=fun a w=>by
    have:caps.map a.eval=(caps.toList.map a.eval).toArray:=by apply Array.toList_inj.1;simp
    simp[execOp,Instr.makeFunc,this]
   split at h
   ·next ds hd=>
    refine .inl ⟨_,QJ.value (by simp) (fun γ H a w so sm=>?_),h⟩
    obtain⟨r1,r2⟩:=rep γ H a so
    obtain⟨h1,h2⟩:=k8 hd r1 r2
    exact⟨_,run a w,.d _ _ (.fn f ds _ h1 h2)⟩
   ·refine .inl ⟨_,QJ.value (by simp) (fun γ H a w so sm=>?_),h⟩
    obtain⟨r1,r2⟩:=rep γ H a so
    exact⟨_,run a w,.fnp f asz _ r1 r2⟩
  ·exact .inr h
 ·exact .inr h
end
end Go.Gv
end
section
namespace Go.Gv
open Go.RowKit
section
variable {X:Cx} {d:Option Nat} {ty:TypeId} {pos:String} {aft:Array Edge} {g:Option (Nat×Bool)} {t:T} {σ:Sg} {K:AV→Prop} {F:Prop}
theorem jt {γ:Ids}{H:HF}{a b:AV}{u v:Value}(h:Rep γ H a u)(k:Rep γ H b v):Rep γ H (.tup [a,b]) (.tuple #[u,v]):=
 .tup [a,b] [u,v] rfl fun j x y hx hy=>by
  match j with
  |0=>simp at hx hy;subst hx;subst hy;exact h
  |1=>simp at hx hy;subst hx;subst hy;exact k
  |j+2=>simp at hx
theorem fy {γ:Ids}{H:HF}{b:Bool}:Rep γ H (.d (.v (.bool b))) (.bool b):=.d _ _ (.v _ rfl)
theorem lz {γ:Ids}{H:HF}{cs:List D}{us:List Value}(hl:us.length=cs.length)(h:∀(j:Nat)(a:D)(u:Value),cs[j]?=some a→us[j]?=some u→RepD H a u):Rep γ H (.agg (cs.map .d)) (.agg us.toArray):=
 .agg _ us (by simp[hl]) fun j a u ha hu=>by
  simp only[List.getElem?_map,Option.map_eq_some_iff]at ha
  obtain⟨x,hx,rfl⟩:=ha
  exact .d _ _ (h j x u hx hu)
theorem pi {x:Operand}{xt asz:TypeId}{ok:Bool}(h:qF X x asz ok t K F):bR X ⟨d,.typeAssert x xt asz ok,ty,pos,aft,g⟩ t σ K F:=by
 unfold qF at h
 simp only[bT]at h
 split at h
 ·exact .inr h
 ·next td z hni hu hz=>
  have hyes:∀ti v w ok,ti=asz→(Instr.typeAssert (.iface ti v) xt asz ok).run X.P w=.ok (if ok then .tuple #[v,.bool true]else v) w:=fun ti v w ok e=>by
   subst e
   unfold Instr.typeAssert
   simp only[Sem.run_bind,run_underlying hu,Result.andThen_ok]
   cases td<;>first|(exact absurd rfl (hni _))|(cases ok<;>simp)
  have hno:∀ti v w,ti≠asz→(Instr.typeAssert (.iface ti v) xt asz true).run X.P w=.ok (.tuple #[z,.bool false]) w:=fun ti v w e=>by
   unfold Instr.typeAssert
   simp only[Sem.run_bind,run_underlying hu,Result.andThen_ok]
   cases td<;>first|(exact absurd rfl (hni _))|simp[e,bL hz]
  have hnil:∀w,(Instr.typeAssert .nilIface xt asz true).run X.P w=.ok (.tuple #[z,.bool false]) w:=fun w=>by
   unfold Instr.typeAssert
   simp only[Sem.run_bind,run_underlying hu,Result.andThen_ok]
   cases td<;>first|(exact absurd rfl (hni _))|simp[bL hz]
  split at h
  ·next tt v hx=>
   have rx:∀(γ:Ids)(H:HF)(a:Act),(∀y,y∈(Op.typeAssert x xt asz ok).operands→∀v,ge t y=some v→Rep γ H v (a.eval y))→∃u,a.eval x=.iface tt u∧RepD H v u:=fun γ H a so=>by
    have r:=eS (so x (by simp[Op.operands]) _ hx)
    generalize a.eval x=q at r
    cases r with|ifc _ _ u hr=>exact⟨u,rfl,hr⟩
   split at h
   ·next hb=>
    refine .inl ⟨_,QJ.value (by simp) (fun γ H a w so sm=>?_),h⟩
    obtain⟨u,e,hr⟩:=rx γ H a so
    exact⟨_,by simp[execOp,e,hyes tt u w true (Nat.eq_of_beq_eq_true hb)],jt (.d _ _ hr) fy⟩
   ·next hb=>
    refine .inl ⟨_,QJ.value (by simp) (fun γ H a w so sm=>?_),h⟩
    obtain⟨u,e,hr⟩:=rx γ H a so
    exact⟨_,by simp[execOp,e,hyes tt u w false (Nat.eq_of_beq_eq_true hb)],.d _ _ hr⟩
   ·next hb=>
    have hne:tt≠asz:=fun e=>by subst e;simp at hb
    refine .inl ⟨_,QJ.value (by simp) (fun γ H a w so sm=>?_),h⟩
    obtain⟨u,e,hr⟩:=rx γ H a so
    exact⟨_,by simp[execOp,e,hno tt u w hne],jt (bQ γ H z) fy⟩
   ·exact .inr h
  ·next tt cs hx=>
   have rx:∀(γ:Ids)(H:HF)(a:Act),(∀y,y∈(Op.typeAssert x xt asz ok).operands→∀v,ge t y=some v→Rep γ H v (a.eval y))→∃us:List Value,a.eval x=.iface tt (.agg us.toArray)∧Rep γ H (.agg (cs.map .d)) (.agg us.toArray):=fun γ H a so=>by
    have r:=eS (so x (by simp[Op.operands]) _ hx)
    generalize a.eval x=q at r
    cases r with|ifa _ _ us hl hr=>exact⟨us,rfl,lz hl hr⟩
   split at h
   ·next hb=>
    refine .inl ⟨_,QJ.value (by simp) (fun γ H a w so sm=>?_),h⟩
    obtain⟨u,e,hr⟩:=rx γ H a so
    exact⟨_,by simp[execOp,e,hyes tt _ w true (Nat.eq_of_beq_eq_true hb)],jt hr fy⟩
   ·next hb=>
    refine .inl ⟨_,QJ.value (by simp) (fun γ H a w so sm=>?_),h⟩
    obtain⟨u,e,hr⟩:=rx γ H a so
    exact⟨_,by simp[execOp,e,hyes tt _ w false (Nat.eq_of_beq_eq_true hb)],hr⟩
   ·next hb=>
    have hne:tt≠asz:=fun e=>by subst e;simp at hb
    refine .inl ⟨_,QJ.value (by simp) (fun γ H a w so sm=>?_),h⟩
    obtain⟨u,e,hr⟩:=rx γ H a so
    exact⟨_,by simp[execOp,e,hno tt _ w hne],jt (bQ γ H z) fy⟩
   ·exact .inr h
  ·next hx=>
   split at h
   ·refine .inl ⟨_,QJ.value (by simp) (fun γ H a w so sm=>?_),h⟩
    have e:=aV (so x (by simp[Op.operands]) _ hx)
    exact⟨_,by simp[execOp,e,hnil w],jt (bQ γ H z) fy⟩
   ·exact .inr h
  ·exact .inr h
 ·exact .inr h
theorem nC {b:Builtin}{args:Array Operand}{tys:Array TypeId}(h:nD X b args tys t K F):bR X ⟨d,.call {callee:=.builtin b,args:=args,argTypes:=tys},ty,pos,aft,g⟩ t σ K F:=by
 unfold nD at h
 simp only[bT]at h
 split at h
 ·next x tt=>
  split at h
  ·next e a hu hx=>
   split at h
   ·next n hl=>exact .inl ⟨_,O.len hx hl hu,h⟩
   ·exact .inr h
  ·next l hu hx=>exact .inl ⟨_,AN hx (fun cs w=>by have hz:(⟨⟨l⟩⟩:ByteArray).size=l.length:=rfl;simp only[builtin,Builtin.len_];simp[run_underlying hu,goInt,hz]) rfl,h⟩
  ·next n e a hu hx=>
   refine .inl ⟨_,QJ.value (by simp) (fun γ H ac w so sm=>⟨.int .i64 n,?_,.d _ _ (.v _ rfl)⟩),h⟩
   simp[execOp,resolve,invoke,builtin,Builtin.len_,run_underlying hu,goInt]
  ·exact .inr h
 ·next x y _=>
  split at h
  ·next k a b hx hy=>exact .inl ⟨_,AM hx hy (fun cs w=>by simp[builtin,Builtin.max_,Builtin.max2]) rfl,h⟩
  ·exact .inr h
 ·next x y _=>
  split at h
  ·next k a b hx hy=>exact .inl ⟨_,AM hx hy (fun cs w=>by simp[builtin,Builtin.min_,Builtin.min2]) rfl,h⟩
  ·exact .inr h
 ·next x _=>
  split at h
  ·next hx=>exact .inl ⟨_,AN hx (fun cs w=>rfl) rfl,h⟩
  ·exact .inr h
 ·next x _=>
  split at h
  ·next hx=>exact .inl ⟨_,AN hx (fun cs w=>rfl) rfl,h⟩
  ·exact .inr h
 ·exact .inr h
theorem cX {P:Program}{w:World}{k:IntKind}{i:Int}{y:Nat}{code:BoundsCode}(h0:0≤i)(h:i≤(y:Int)):(Instr.sliceBound (.int k i) y code).run P w=.ok i.toNat w:=by
 simp[Instr.sliceBound,asIntOf,h0,h]
theorem vt {γ:Ids}{H:HF}{a:Act}{lo:Option Operand}{l:Int}(h:loV t lo=some l)(so:∀x,lo=some x→∀v,ge t x=some v→Rep γ H v (a.eval x)):
 (lo=none∧l=0)∨∃o k,lo=some o∧a.eval o=.int k l:=by
 unfold loV at h
 split at h
 ·cases h;exact .inl ⟨rfl,rfl⟩
 ·next o=>
  split at h
  ·next k l' hg=>cases h;exact .inr ⟨o,k,rfl,aV (so o rfl _ hg)⟩
  ·cases h
theorem BX {γ:Ids}{H:HF}{a:Act}{hi:Option Operand}{n:Nat}{l:Int}(h:hiV t n hi=some l)(so:∀x,hi=some x→∀v,ge t x=some v→Rep γ H v (a.eval x)):
 (hi=none∧l=n)∨∃o k,hi=some o∧a.eval o=.int k l:=by
 unfold hiV at h
 split at h
 ·cases h;exact .inl ⟨rfl,rfl⟩
 ·next o=>
  split at h
  ·next k l' hg=>cases h;exact .inr ⟨o,k,rfl,aV (so o rfl _ hg)⟩
  ·cases h
theorem fJ {P:Program}{w:World}{γ:Ids}{H:HF}{a:Act}{lo hi:Option Operand}{isS:Bool}{len cap:Nat}{l h:Int}(hl:loV t lo=some l)(hh:hiV t len hi=some h)(h0:0≤l)(h1:l≤h)(h2:h≤(len:Int))(h3:len≤cap)
 (so:∀x,(lo=some x∨hi=some x)→∀v,ge t x=some v→Rep γ H v (a.eval x)):(Instr.sliceBounds isS len cap (lo.map a.eval) (hi.map a.eval) none).run P w=.ok (l.toNat,h.toNat,cap) w:=by
 have hcast:((h.toNat:Nat):Int)=h:=Int.toNat_of_nonneg (by omega)
 rcases vt (γ:=γ) (H:=H) (a:=a) hl (fun x hx=>so x (.inl hx))with⟨rfl,rfl⟩|⟨o,k,rfl,ho⟩<;>rcases BX (γ:=γ) (H:=H) (a:=a) hh (fun x hx=>so x (.inr hx))with⟨rfl,rfl⟩|⟨p,k2,rfl,hp⟩
 ·simp[Instr.sliceBounds]
 ·simp[Instr.sliceBounds,hp,cX (show(0:Int)≤h by omega) (show h≤(cap:Int)by omega)]
 ·simp[Instr.sliceBounds,ho,cX h0 (show l≤(len:Int)by omega)]
 ·simp[Instr.sliceBounds,ho,hp,cX (show(0:Int)≤h by omega) (show h≤(cap:Int)by omega),cX h0 (show l≤((h.toNat:Nat):Int)by omega)]
theorem RepD.cut {H:HF}{k l h:Nat}{xs:List (List D)}{A:Option Addr}{c c':Nat}(r:RepD H (.sl k xs) (.slice A xs.length c))(h1:l≤h)(h2:h≤xs.length)(hc1:h≤c')(hc2:c'≤c):
 RepD H (.sl k ((xs.take h).drop l)) (.slice (if c'=l then A else A.map (·.add (l*k))) (h-l) (c'-l)):=by
 cases r with
 |sl _ _ _ _ b o us hk hn hc hA hH hr=>
  have hlen:((xs.take h).drop l).length=h-l:=by simp;omega
  have get:∀(j:Nat)(cs:List D),((xs.take h).drop l)[j]?=some cs→xs[l+j]?=some cs∧l+j<h:=by
   intro j cs hj
   rw[List.getElem?_drop,List.getElem?_take]at hj
   split at hj
   ·exact⟨hj,by assumption⟩
   ·cases hj
  have key:=RepD.sl (H:=H) k ((xs.take h).drop l) (if c'=l then A else A.map (·.add (l*k))) (c'-l) b (o+l*k) (fun j i=>us (l+j) i) (fun cs hcs=>hk cs (List.mem_of_mem_take (List.mem_of_mem_drop hcs)))
   (by omega) (by omega) (fun h0=>by
    rw[hlen]at h0
    rw[if_neg (by omega),hA (by omega)]
    simp only[Option.map_some,Addr.add]
    split
    ·next e=>rw[e];rfl
    ·rfl) (fun j i hj hi=>by
     rw[hlen]at hj
     rw[show o+l*k+j*k+i=o+(l+j)*k+i from by rw[Nat.add_mul];omega]
     exact hH (l+j) i (by omega) hi) (fun j i cs a hj ha=>hr (l+j) i cs a (get j cs hj).1 ha)
  rw[hlen]at key
  exact key
theorem qA {st:TypeId}{x:Operand}{lo hi mx:Option Operand}(h:tY X st x lo hi mx t K F):bR X ⟨d,.slice st x lo hi mx,ty,pos,aft,g⟩ t σ K F:=by
 unfold tY at h
 simp only[bT]at h
 split at h
 ·next s hu hx=>
  split at h
  ·next l hh hl hhi=>
   obtain⟨⟨h0,h1,h2⟩,h⟩:=h
   refine .inl ⟨_,QJ.value (by simp) (fun γ H a w so sm=>⟨_,?_,.d _ _ (.v _ rfl)⟩),h⟩
   have hr:=aV (so x (by simp[Op.operands]) _ hx)
   have hb:=fJ (P:=X.P) (w:=w) (γ:=γ) (H:=H) (a:=a) (isS:=false) (len:=s.length) (cap:=s.length) hl hhi h0 h1 h2 (Nat.le_refl _) (fun y hy v hv=>so y (by
    rcases hy with rfl|rfl<;>simp[Op.operands]) v hv)
   have e:(⟨⟨s⟩⟩:ByteArray).extract l.toNat hh.toNat=⟨⟨(s.take hh.toNat).drop l.toNat⟩⟩:=by
    apply ByteArray.ext
    apply Array.toList_inj.1
    simp[ByteArray.data_extract,List.drop_take]
   have hsz:(⟨⟨s⟩⟩:ByteArray).size=s.length:=by simp[ByteArray.size]
   simp only[execOp,hr,Instr.sliceAt,Instr.slice,Sem.run_bind,run_underlying hu,Result.andThen_ok,hsz,hb,Sem.run_pure,Option.map_none,e,Option.isSome_none,Bool.false_eq_true,if_false]
  ·exact .inr h
 ·next e a hu hx=>
  split at h
  ·next k xs k' hel hs=>
   split at h
   ·next l hh hk hl hhi=>
    obtain rfl:=Nat.eq_of_beq_eq_true hk
    obtain⟨⟨h0,h1,h2⟩,h⟩:=h
    refine .inl ⟨_,QJ.value (by simp) (fun γ H ac w so sm=>?_),h⟩
    have hr:=dy (so x (by simp[Op.operands]) _ hx) hel
    generalize hq:ac.eval x=q at hr
    have hr':=hr
    cases hr with
    |sl _ _ A c b o us hk hn hc hA hH hr2=>
     refine⟨_,?_,.d _ _ (hr'.cut (l:=l.toNat) (h:=hh.toNat) (c':=c) (by omega) (by omega) (by omega) (Nat.le_refl _))⟩
     have hb:=fJ (P:=X.P) (w:=w) (γ:=γ) (H:=H) (a:=ac) (isS:=true) hl hhi h0 h1 h2 hn (fun y hy v hv=>so y (by
      rcases hy with rfl|rfl<;>simp[Op.operands]) v hv)
     simp only[execOp,hq,Instr.sliceAt,Instr.slice,Sem.run_bind,run_underlying hu,Result.andThen_ok,hb,aK hs,Sem.run_pure,Option.map_none]
   ·exact .inr h
  ·exact .inr h
 ·next e a m hu hx=>
  split at h
  ·next k xs k' hel hs=>
   split at h
   ·next l ho kk mm hk hl hm=>
    split at h
    ·next kh hh hho=>
     obtain rfl:=Nat.eq_of_beq_eq_true hk
     obtain⟨⟨h0,h1,h2,rfl⟩,h⟩:=h
     refine .inl ⟨_,QJ.value (by simp) (fun γ H ac w so sm=>?_),h⟩
     have hr:=dy (so x (by simp[Op.operands]) _ hx) hel
     have e1:=aV (so m (by simp[Op.operands]) _ hm)
     have e2:=aV (so ho (by simp[Op.operands]) _ hho)
     have hlo:=vt (γ:=γ) (H:=H) (a:=ac) hl (fun y hy v hv=>so y (by subst hy;simp[Op.operands]) v hv)
     generalize hq:ac.eval x=q at hr
     have hr':=hr
     cases hr with
     |sl _ _ A c b o us hk hn hc hA hH hr2=>
      have hcut:=hr'.cut (l:=l.toNat) (h:=mm.toNat) (c':=mm.toNat) (by omega) (by omega) (Nat.le_refl _) (by omega)
      have hlen:((xs.take mm.toNat).drop l.toNat).length=mm.toNat-l.toNat:=by simp;omega
      have hb:(Instr.sliceBounds true xs.length c (lo.map ac.eval) (some (.int kh mm)) (some (.int kk mm))).run X.P w=.ok (l.toNat,mm.toNat,mm.toNat) w:=by
       have hcm:((mm.toNat:Nat):Int)=mm:=Int.toNat_of_nonneg (by omega)
       rcases hlo with⟨rfl,rfl⟩|⟨o',k2,rfl,ho'⟩
       ·simp[Instr.sliceBounds,cX (show(0:Int)≤mm by omega) (show mm≤(c:Int)by omega),cX (show(0:Int)≤mm by omega) (show mm≤((mm.toNat:Nat):Int)by omega)]
       ·simp[Instr.sliceBounds,ho',cX (show(0:Int)≤mm by omega) (show mm≤(c:Int)by omega),cX (show(0:Int)≤mm by omega) (show mm≤((mm.toNat:Nat):Int)by omega),cX h0 (show l≤((mm.toNat:Nat):Int)by omega)]
      refine⟨.slice (if mm.toNat=l.toNat then A else A.map (·.add (l.toNat*k))) (mm.toNat-l.toNat) (mm.toNat-l.toNat),?_,?_⟩
      ·simp only[execOp,hq,Instr.sliceAt,Instr.slice,Sem.run_bind,run_underlying hu,Result.andThen_ok,Option.map_some,e1,e2,hb,aK hs,Sem.run_pure]
      ·have:=Rep.full (γ:=γ) (H:=H) k ((xs.take mm.toNat).drop l.toNat) (if mm.toNat=l.toNat then A else A.map (·.add (l.toNat*k))) (by rw[hlen];exact hcut)
       rw[hlen]at this;exact this
    ·exact .inr h
   ·exact .inr h
  ·exact .inr h
 ·exact .inr h
theorem yJ {o:Oper}(h:qv X o t σ K F):bR X o t σ K F:=by
 obtain⟨d,op,ty,pos,aft,g⟩:=o
 unfold qv at h
 simp only at h
 split at h
 ·split at h
  ·next v hx=>exact .inl ⟨v,QJ.value (by simp) (fun γ H a w so sm=>⟨_,rfl,so _ (by simp[Op.operands]) _ hx⟩),h⟩
  ·exact .inr h
 ·split at h
  ·next v hx=>exact .inl ⟨v,QJ.value (by simp) (fun γ H a w so sm=>⟨_,rfl,so _ (by simp[Op.operands]) _ hx⟩),h⟩
  ·exact .inr h
 ·next c x y=>
  split at h
  ·next hc=>
   split at h
   ·next v hx=>exact .inl ⟨v,QJ.value (by simp) (fun γ H a w so sm=>⟨a.eval x,by have:=aV (so c (by simp[Op.operands]) _ hc);simp[execOp,asBool,this],so _ (by simp[Op.operands]) _ hx⟩),h⟩
   ·exact .inr h
  ·next hc=>
   split at h
   ·next v hx=>exact .inl ⟨v,QJ.value (by simp) (fun γ H a w so sm=>⟨a.eval y,by have:=aV (so c (by simp[Op.operands]) _ hc);simp[execOp,asBool,this],so _ (by simp[Op.operands]) _ hx⟩),h⟩
   ·exact .inr h
  ·exact .inr h
 ·exact ua h
 ·exact wS h
 ·exact r6 h
 ·exact r4 h
 ·exact lD h
 ·exact qD h
 ·exact lC h
 ·exact qB h
 ·exact tZ h
 ·exact nA h
 ·exact qC h
 ·exact r5 h
 ·exact pi h
 ·exact qA h
 ·exact nC h
 ·exact .inr h
end
end Go.Gv
end
