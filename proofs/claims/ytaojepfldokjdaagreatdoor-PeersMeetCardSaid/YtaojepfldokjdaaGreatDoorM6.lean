/- Laws that the claim's text stands on: part M6 of them. -/
import Derived.Test.YtaojepfldokjdaaGreatDoorM1
import Derived.Test.YtaojepfldokjdaaGreatDoorM2
import Derived.Test.YtaojepfldokjdaaGreatDoorM3
import Derived.Test.YtaojepfldokjdaaGreatDoorM4
import Derived.Test.YtaojepfldokjdaaGreatDoorDShelf
import Derived.Test.YtaojepfldokjdaaGreatDoorM5
import Derived.Lib.RuneBytes
set_option linter.unusedVariables false
set_option linter.unusedSimpArgs false
section
open Go Go.Gv
set_option maxRecDepth 100000
namespace Go.Proofs.E
def bc (l:List OP):List OP:=l.filter fun o=>decide (o.k=0)
def au (k:Int)(a:ID):List OP→Option OP
 |[]=>none
 |o::r=>if o.k=k∧o.i=a then some o else au k a r
def b8 (l:List OP)(a:ID):Bool:=(au 1 a l).isSome
def aq (l:List OP)(o:OP):Int:=
 if aC o≠0 then aC o
 else if o.k=1 then(if (au 0 o.i l).isSome=true then(if b8 l o.i=true then 4 else 0)else 6)
 else if au 0 o.i l=some o then 4
 else if (au 0 o.i l).isSome=true then 5
 else if o.a≠⟨0,0⟩∧(au 0 o.a l).isSome=false then 6
 else if 4096≤(bc l).length then 7 else 0
def elO (l:List OP)(o:OP):EL:=⟨o.i,o.ch,b8 l o.i⟩
def aj (l:List OP):List EL:=(cc (bc l)).map (elO l)
def cR (l:List OP)(a:ID):Option EN:=(au 0 a l).map fun x=>⟨x.a,x.ch,b8 l a⟩
theorem cP (k:Int)(a:ID)(r:List OP):∀l:List OP,au k a (l++r)=(au k a l).or (au k a r)
 |[]=>rfl
 |o::l=>by
  rw[List.cons_append,au,au]
  split
  ·rfl
  ·exact cP k a r l
theorem be {k:Int}{a:ID}{x:OP}:∀{l:List OP},au k a l=some x→x∈l∧x.k=k∧x.i=a
 |[],h=>by cases h
 |o::l,h=>by
  rw[au]at h
  split at h
  ·next hc=>cases h;exact⟨by simp,hc⟩
  ·obtain⟨h1,h2⟩:=be h
   exact⟨List.mem_cons_of_mem _ h1,h2⟩
theorem cI {k:Int}{a:ID}:∀{l:List OP},au k a l=none→∀x,x∈l→x.k=k→x.i≠a
 |[],_,x,hx,_=>by simp at hx
 |o::l,h,x,hx,hk=>by
  rw[au]at h
  split at h
  ·cases h
  ·next hc=>
   rcases List.mem_cons.1 hx with rfl|hx
   ·exact fun e=>hc ⟨hk,e⟩
   ·exact cI h x hx hk
theorem aW {l:List OP}{x:OP}:x∈bc l↔x∈l∧x.k=0:=by unfold bc;rw[List.mem_filter];simp
theorem dk {l:List OP}{o:OP}(h:o.k=0):bc (l++[o])=bc l++[o]:=by unfold bc;rw[List.filter_append];simp[h]
theorem eu {l:List OP}{o:OP}(h:o.k≠0):bc (l++[o])=bc l:=by unfold bc;rw[List.filter_append];simp[h]
theorem gJ {l:List OP}{o:OP}(h:o.k=0)(a:ID):b8 (l++[o]) a=b8 l a:=by
 unfold b8;rw[cP]
 have:au 1 a [o]=none:=by rw[au,if_neg (by rintro⟨h1,_⟩;omega)];rfl
 rw[this,Option.or_none]
theorem gI {l:List OP}{o:OP}(h:o.k=1)(a:ID):b8 (l++[o]) a=(b8 l a||decide (o.i=a)):=by
 unfold b8;rw[cP]
 by_cases e:o.i=a
 ·have:au 1 a [o]=some o:=by rw[au,if_pos ⟨h,e⟩]
  rw[this,decide_eq_true e];cases au 1 a l<;>rfl
 ·have:au 1 a [o]=none:=by rw[au,if_neg (fun h=>e h.2)];rfl
  rw[this,decide_eq_false e,Option.or_none,Bool.or_false]
theorem eF {o:OP}(h:aC o=0)(hk:o.k=0):o.a=⟨0,0⟩∨(bg o.a=true∧o.a.c<o.i.c):=by
 unfold aC at h
 split at h
 ·cases h
 ·split at h
  ·cases h
  ·split at h
   ·cases h
   ·next h3=>
    split at h
    ·cases h
    ·next h4=>
     cases e:bu o.a with
     |true=>exact .inl (jj e)
     |false=>
      right
      refine⟨?_,?_⟩
      ·cases e':bg o.a with
       |true=>rfl
       |false=>exact absurd (.inr ⟨e,e'⟩) h3
      ·have:¬o.i.c≤o.a.c:=fun h=>h4 ⟨e,h⟩
       omega
inductive Dn:List OP→Prop where
 |nil:Dn []
 |snoc {l:List OP} {o:OP} (h:Dn l) (hw:aq l o=0):Dn (l++[o])
theorem bQ {l:List OP}{o:OP}(h:aq l o=0):aC o=0∧((o.k=1∧(au 0 o.i l).isSome=true∧b8 l o.i=false)∨
 (o.k=0∧au 0 o.i l=none∧(o.a=⟨0,0⟩∨(au 0 o.a l).isSome=true)∧(bc l).length<4096)):=by
 unfold aq at h
 by_cases h0:aC o=0
 ·refine⟨h0,?_⟩
  rw[if_neg (fun e=>e h0)]at h
  by_cases h1:o.k=1
  ·rw[if_pos h1]at h
   left
   refine⟨h1,?_⟩
   split at h
   ·next h2=>
    split at h
    ·cases h
    ·next h3=>exact⟨h2,by simpa using h3⟩
   ·cases h
  ·rw[if_neg h1]at h
   right
   have hk:o.k=0:=by rcases(bC h0).2 with h|h;exact absurd h.1 h1;exact h.1
   split at h
   ·cases h
   ·split at h
    ·cases h
    ·next h3=>
     split at h
     ·cases h
     ·next h4=>
      split at h
      ·cases h
      ·next h5=>
       refine⟨hk,by simpa using h3,?_,by omega⟩
       by_cases ha:o.a=⟨0,0⟩
       ·exact .inl ha
       ·right
        cases hf:(au 0 o.a l).isSome with
        |true=>rfl
        |false=>exact absurd ⟨ha,hf⟩ h4
 ·rw[if_pos h0]at h
  exact absurd h h0
structure DnI (l:List OP):Prop where
 tk:Tk (bc l)
 dels:∀o,o∈l→o.k=1→(au 0 o.i l).isSome=true
 ok:∀o,o∈l→aC o=0
 len:(bc l).length≤4096
theorem Dn.is:∀{l:List OP},Dn l→DnI l:=by
 intro l h
 induction h with
 |nil=>exact⟨Tk.nil,fun _ h=>by simp at h,fun _ h=>by simp at h,by simp[bc]⟩
 |@snoc l o h hw ih=>
  obtain⟨hc,hk⟩:=bQ hw
  have hd:∀x,x∈l++[o]→x.k=1→(au 0 x.i (l++[o])).isSome=true:=fun x hx hx1=>by
   rw[cP]
   rcases List.mem_append.1 hx with hx|hx
   ·have:=ih.dels x hx hx1
    cases hf:au 0 x.i l with
    |none=>rw[hf]at this;cases this
    |some y=>rfl
   ·rw[List.mem_singleton]at hx;subst hx
    rcases hk with⟨_,h2,_⟩|⟨h2,_⟩
    ·cases hf:au 0 x.i l with
     |none=>rw[hf]at h2;cases h2
     |some y=>rfl
    ·omega
  have hok:∀x,x∈l++[o]→aC x=0:=fun x hx=>by
   rcases List.mem_append.1 hx with hx|hx
   ·exact ih.ok x hx
   ·rw[List.mem_singleton]at hx;subst hx;exact hc
  rcases hk with⟨h1,h2,h3⟩|⟨h1,h2,h3,h4⟩
  ·refine⟨?_,hd,hok,?_⟩
   ·rw[eu (by omega)];exact ih.tk
   ·rw[eu (by omega)];exact ih.len
  ·have hm:=bf (bC hc).1
   refine⟨?_,hd,hok,?_⟩
   ·rw[dk h1]
    refine Tk.snoc ih.tk ?_ ?_ (fun x hx=>?_) ?_
    ·rcases eF hc h1 with e|⟨_,e⟩
     ·rw[e];simp only;omega
     ·omega
    ·rcases eF hc h1 with e|⟨e,_⟩
     ·rw[e];decide
     ·have:=bf e;omega
    ·obtain⟨hx1,hx2⟩:=aW.1 hx
     exact cI h2 x hx1 hx2
    ·rcases h3 with h3|h3
     ·exact .inl h3
     ·right
      cases hf:au 0 o.a l with
      |none=>rw[hf]at h3;cases h3
      |some y=>
       obtain⟨y1,y2,y3⟩:=be hf
       exact⟨y,aW.2 ⟨y1,y2⟩,y3⟩
   ·rw[dk h1,List.length_append,List.length_singleton];omega
def fR (o:OP):List OP→Nat
 |[]=>0
 |x::r=>if aX o.i x.i=true then fR o r+1 else 0
def gi (o:OP):List OP→Nat
 |[]=>0
 |x::r=>if x.i=o.a then fR o r+1 else gi o r+1
def tS (o:OP)(L:List OP):Nat:=if o.a=⟨0,0⟩then fR o L else gi o L
theorem kZ (o:OP):∀L:List OP,fR o L≤L.length
 |[]=>Nat.le_refl _
 |x::r=>by
  rw[fR];split
  ·have:=kZ o r;simp only[List.length_cons];omega
  ·omega
theorem lM (o:OP):∀L:List OP,(∃y,y∈L∧y.i=o.a)→gi o L≤L.length
 |[],h=>by obtain⟨y,hy,_⟩:=h;simp at hy
 |x::r,h=>by
  rw[gi];split
  ·have:=kZ o r;simp only[List.length_cons];omega
  ·next hne=>
   have:∃y,y∈r∧y.i=o.a:=by
    obtain⟨z,hz,e⟩:=h
    rcases List.mem_cons.1 hz with rfl|hz
    ·exact absurd e hne
    ·exact⟨z,hz,e⟩
   have:=lM o r this;simp only[List.length_cons];omega
theorem lf (o:OP):∀L:List OP,gE o L=L.take (fR o L)++o::L.drop (fR o L)
 |[]=>rfl
 |x::r=>by
  rw[gE,fR];split
  ·rw[List.take_succ_cons,List.drop_succ_cons,lf o r];rfl
  ·rfl
theorem mg (o:OP):∀L:List OP,(∃y,y∈L∧y.i=o.a)→ew o L=L.take (gi o L)++o::L.drop (gi o L)
 |[],h=>by obtain⟨y,hy,_⟩:=h;simp at hy
 |x::r,h=>by
  rw[ew,gi];split
  ·rw[List.take_succ_cons,List.drop_succ_cons,lf o r];rfl
  ·next hne=>
   have:∃y,y∈r∧y.i=o.a:=by
    obtain⟨z,hz,e⟩:=h
    rcases List.mem_cons.1 hz with rfl|hz
    ·exact absurd e hne
    ·exact⟨z,hz,e⟩
   rw[List.take_succ_cons,List.drop_succ_cons,mg o r this];rfl
def ax (a:ID):List EL→Int
 |[]=>-1
 |e::r=>if e.id=a then 0 else(if ax a r<0 then-1 else ax a r+1)
theorem gx {a:ID}:∀{L:List EL},(∀e,e∈L→e.id≠a)→ax a L=-1
 |[],_=>rfl
 |e::r,h=>by
  rw[ax,if_neg (h e (by simp)),gx fun x hx=>h x (List.mem_cons_of_mem _ hx)];rfl
theorem j6 {a:ID}:∀{L:List EL}{n:Nat}{e:EL},L[n]?=some e→e.id=a→(∀j x,j<n→L[j]?=some x→x.id≠a)→ax a L=n
 |[],n,e,h,_,_=>by simp at h
 |x::r,0,e,h,he,_=>by
  simp at h;subst h
  rw[ax,if_pos he];rfl
 |x::r,n+1,e,h,he,hn=>by
  rw[ax,if_neg (hn 0 x (by omega) rfl),j6 (n:=n) (by simpa using h) he fun j y hj hy=>hn (j+1) y (by omega) (by simpa using hy),if_neg (by omega)]
  simp
theorem j4 (a:ID):∀L:List EL,ax a L<L.length
 |[]=>by simp[ax]
 |e::r=>by
  rw[ax,List.length_cons]
  have:=j4 a r
  split
  ·omega
  ·split<;>omega
theorem j5 (a:ID):∀L:List EL,-1≤ax a L
 |[]=>by simp[ax]
 |e::r=>by
  rw[ax]
  have:=j5 a r
  split
  ·omega
  ·split<;>omega
theorem iD {a:ID}:∀{L:List EL},0≤ax a L→∃e,L[(ax a L).toNat]?=some e∧e.id=a∧∀j x,j<(ax a L).toNat→L[j]?=some x→x.id≠a
 |[],h=>by simp[ax]at h
 |e::r,h=>by
  rw[ax]at h ⊢
  split at h
  ·next he=>rw[if_pos he];exact⟨e,rfl,he,fun j x hj=>by simp at hj⟩
  ·next he=>
   split at h
   ·omega
   ·next h2=>
    rw[if_neg he,if_neg h2]
    obtain⟨x,h3,h4,h5⟩:=iD (a:=a) (L:=r) (by omega)
    have e1:(ax a r+1).toNat=(ax a r).toNat+1:=by omega
    refine⟨x,by rw[e1,List.getElem?_cons_succ];exact h3,h4,fun j y hj hy=>?_⟩
    rw[e1]at hj
    cases j with
    |zero=>simp at hy;subst hy;exact he
    |succ j=>exact h5 j y (by omega) (by simpa using hy)
theorem pD {a:ID}{L:List EL}{e:EL}(he:e∈L)(hi:e.id=a):0≤ax a L:=by
 induction L with
 |nil=>simp at he
 |cons x r ih=>
  rw[ax]
  split
  ·omega
  ·next hne=>
   rcases List.mem_cons.1 he with rfl|he
   ·exact absurd hi hne
   ·have:=ih he;rw[if_neg (by omega)];omega
theorem yr:∀{I:List OP},Tk I→(cc I).Pairwise fun x y=>x.i≠y.i:=by
 intro I h
 induction h with
 |nil=>exact List.Pairwise.nil
 |@snoc I o h hc h0 hn ha ih=>
  rw[kd h.is hc h0 hn ha]
  have hm:=h.is.mem
  have key:∀p,p≤(cc I).length→((cc I).take p++o::(cc I).drop p).Pairwise fun x y=>x.i≠y.i:=fun p hp=>by
   have hsp:=List.take_append_drop p (cc I)
   rw[←hsp]at ih
   obtain⟨i1,i2,i3⟩:=List.pairwise_append.1 ih
   refine List.pairwise_append.2 ⟨i1,List.pairwise_cons.2 ⟨fun y hy=>?_,i2⟩,fun x hx y hy=>?_⟩
   ·exact fun e=>hn y ((hm y).1 (List.mem_of_mem_drop hy)) e.symm
   ·rcases List.mem_cons.1 hy with rfl|hy
    ·exact hn x ((hm x).1 (List.mem_of_mem_take hx))
    ·exact i3 x hx y hy
  unfold rC
  split
  ·rw[lf];exact key _ (kZ _ _)
  ·next e=>
   have hex:∃y,y∈cc I∧y.i=o.a:=by
    rcases ha with ha|⟨y,hy,ha⟩
    ·exact absurd ha e
    ·exact⟨y,(hm y).2 hy,ha⟩
   rw[mg o _ hex];exact key _ (lM _ _ hex)
theorem jX {l:List OP}(h:Dn l):(aj l).Pairwise fun x y=>x.id≠y.id:=by
 unfold aj
 rw[List.pairwise_map]
 exact(yr h.is.tk).imp fun h=>h
theorem fP {l:List OP}(h:Dn l):(aj l).length=(bc l).length:=by unfold aj;rw[List.length_map,h.is.tk.is.len]
theorem gO {l:List OP}(h:Dn l){e:EL}:e∈aj l↔∃o,o∈bc l∧e=elO l o:=by
 unfold aj
 rw[List.mem_map]
 exact⟨fun⟨o,h1,h2⟩=>⟨o,(h.is.tk.is.mem o).1 h1,h2.symm⟩,fun⟨o,h1,h2⟩=>⟨o,(h.is.tk.is.mem o).2 h1,h2.symm⟩⟩
theorem eY {l:List OP}(h:Dn l){x:OP}(hx:x∈bc l):au 0 x.i l=some x:=by
 cases hf:au 0 x.i l with
 |none=>exact absurd rfl (cI hf x (aW.1 hx).1 (aW.1 hx).2)
 |some y=>
  obtain⟨y1,y2,y3⟩:=be hf
  rw[oK h.is.tk.is.ok (aW.2 ⟨y1,y2⟩) hx y3]
theorem gT {l:List OP}(h:Dn l)(a:ID):decide (0≤ax a (aj l))=(au 0 a l).isSome:=by
 cases hf:au 0 a l with
 |none=>
  rw[gx]
  ·rfl
  ·intro e he
   obtain⟨o,ho,rfl⟩:=(gO h).1 he
   exact cI hf o (aW.1 ho).1 (aW.1 ho).2
 |some x=>
  obtain⟨x1,x2,x3⟩:=be hf
  rw[decide_eq_true (pD ((gO h).2 ⟨x,aW.2 ⟨x1,x2⟩,rfl⟩) x3)];rfl
theorem q9 {L:List EL}(h:L.Pairwise fun x y=>x.id≠y.id){i j:Nat}{x y:EL}(hi:L[i]?=some x)(hj:L[j]?=some y)(e:x.id=y.id):i=j:=by
 have hi':=(List.getElem?_eq_some_iff.1 hi)
 have hj':=(List.getElem?_eq_some_iff.1 hj)
 obtain⟨hi1,hi2⟩:=hi'
 obtain⟨hj1,hj2⟩:=hj'
 rcases Nat.lt_trichotomy i j with hlt|heq|hgt
 ·have:=List.pairwise_iff_getElem.1 h i j hi1 hj1 hlt
  rw[hi2,hj2]at this;exact absurd e this
 ·exact heq
 ·have:=List.pairwise_iff_getElem.1 h j i hj1 hi1 hgt
  rw[hi2,hj2]at this;exact absurd e.symm this
theorem fT {L:List EL}(h:L.Pairwise fun x y=>x.id≠y.id){n:Nat}{e:EL}(he:L[n]?=some e):ax e.id L=n:=
 j6 he rfl fun j x hj hx e2=>by have:=q9 h hx he e2;omega
def cn (l:List OP)(o:OP):Nat:=tS o (cc (bc l))
theorem gS {l:List OP}(h:Dn l){o:OP}(hw:aq l o=0)(hk:o.k=0):cn l o≤(aj l).length:=by
 obtain⟨hc,h1⟩:=bQ hw
 rcases h1 with⟨h1,_⟩|⟨_,_,ha,_⟩
 ·omega
 unfold cn tS aj
 rw[List.length_map]
 split
 ·exact kZ _ _
 ·next e=>
  rcases ha with ha|ha
  ·exact absurd ha e
  ·cases hf:au 0 o.a l with
   |none=>rw[hf]at ha;cases ha
   |some y=>
    obtain⟨y1,y2,y3⟩:=be hf
    exact lM _ _ ⟨y,(h.is.tk.is.mem y).2 (aW.2 ⟨y1,y2⟩),y3⟩
theorem kY {l:List OP}(h:Dn l){o:OP}(hw:aq l o=0)(hk:o.k=0):aj (l++[o])=(aj l).take (cn l o)++⟨o.i,o.ch,false⟩::(aj l).drop (cn l o):=by
 obtain⟨hc,h1⟩:=bQ hw
 rcases h1 with⟨h1,_⟩|⟨_,hnew,ha,_⟩
 ·omega
 have hm:=bf (bC hc).1
 have hcl:o.a.c<o.i.c∧o.i.c≤1048576:=by
  rcases eF hc hk with e|⟨_,e⟩
  ·rw[e];simp only;omega
  ·omega
 have h0:0≤o.a.c:=by
  rcases eF hc hk with e|⟨e,_⟩
  ·rw[e];decide
  ·have:=bf e;omega
 have hn:∀x,x∈bc l→x.i≠o.i:=fun x hx=>cI hnew x (aW.1 hx).1 (aW.1 hx).2
 have ha':o.a=⟨0,0⟩∨∃x,x∈bc l∧x.i=o.a:=by
  rcases ha with ha|ha
  ·exact .inl ha
  ·right
   cases hf:au 0 o.a l with
   |none=>rw[hf]at ha;cases ha
   |some y=>
    obtain⟨y1,y2,y3⟩:=be hf
    exact⟨y,aW.2 ⟨y1,y2⟩,y3⟩
 have hd:b8 (l++[o]) o.i=false:=by
  rw[gJ hk]
  unfold b8
  cases hf:au 1 o.i l with
  |none=>rfl
  |some y=>
   obtain⟨y1,y2,y3⟩:=be hf
   have:=h.is.dels y y1 y2
   rw[y3,hnew]at this;cases this
 have hel:∀x,elO (l++[o]) x=elO l x:=fun x=>by unfold elO;rw[gJ hk]
 have hel':elO (l++[o])=elO l:=funext hel
 have heo:elO l o=⟨o.i,o.ch,false⟩:=by rw[←hel];unfold elO;rw[hd]
 unfold aj
 rw[dk hk,kd h.is.tk.is hcl h0 hn ha',hel']
 have:rC o (cc (bc l))=(cc (bc l)).take (cn l o)++o::(cc (bc l)).drop (cn l o):=by
  unfold rC cn tS
  split
  ·exact lf _ _
  ·next e=>
   rcases ha' with ha|⟨x,hx,ha⟩
   ·exact absurd ha e
   ·exact mg _ _ ⟨x,(h.is.tk.is.mem x).2 hx,ha⟩
 rw[this,List.map_append,List.map_cons,heo,List.map_take,List.map_drop]
theorem tT {l:List OP}(h:Dn l){o:OP}(hw:aq l o=0)(hk:o.k=0):ax o.i (aj (l++[o]))=cn l o:=by
 have hnd:=jX (Dn.snoc h hw)
 have hle:=gS h hw hk
 have:=fT hnd (n:=cn l o) (e:=⟨o.i,o.ch,false⟩) (by
  rw[kY h hw hk,List.getElem?_append_right (by rw[List.length_take];omega),List.length_take,Nat.min_eq_left hle,Nat.sub_self];rfl)
 exact this
theorem iY {l:List OP}(h:Dn l){o:OP}(hw:aq l o=0)(hk:o.k=1):∃n ch,ax o.i (aj l)=(n:Nat)∧(aj l)[n]?=some ⟨o.i,ch,false⟩∧cR l o.i=some ⟨((au 0 o.i l).map (·.a)).getD ⟨0,0⟩,ch,false⟩∧
 aj (l++[o])=(aj l).set n ⟨o.i,ch,true⟩∧ax o.i (aj (l++[o]))=(n:Nat):=by
 obtain⟨hc,h1⟩:=bQ hw
 obtain⟨hs,hd⟩:(au 0 o.i l).isSome=true∧b8 l o.i=false:=by
  rcases h1 with⟨_,h⟩|⟨h1,_⟩
  ·exact h
  ·omega
 cases hf:au 0 o.i l with
 |none=>rw[hf]at hs;cases hs
 |some x=>
  obtain⟨x1,x2,x3⟩:=be hf
  have hx:=aW.2 ⟨x1,x2⟩
  have hmem:elO l x∈aj l:=(gO h).2 ⟨x,hx,rfl⟩
  obtain⟨n,hn⟩:=List.getElem?_of_mem hmem
  have hpl:=fT (jX h) hn
  have hex:elO l x=⟨o.i,x.ch,false⟩:=by unfold elO;rw[x3,hd]
  rw[hex]at hn hpl
  have hrow:aj (l++[o])=(aj l).set n ⟨o.i,x.ch,true⟩:=by
   apply List.ext_getElem?
   intro j
   rw[List.getElem?_set]
   have e1:aj (l++[o])=(cc (bc l)).map (elO (l++[o])):=by unfold aj;rw[eu (by omega)]
   rw[e1,List.getElem?_map]
   have e2:(aj l)[j]?=((cc (bc l))[j]?).map (elO l):=by unfold aj;rw[List.getElem?_map]
   have hlen:n<(aj l).length:=(List.getElem?_eq_some_iff.1 hn).1
   by_cases hj:n=j
   ·subst hj
    rw[if_pos rfl,if_pos hlen]
    rw[hn]at e2
    cases hz:(cc (bc l))[n]? with
    |none=>rw[hz]at e2;cases e2
    |some z=>
     rw[hz]at e2
     simp only[Option.map_some,Option.some.injEq]at e2
     have z1:o.i=z.i:=congrArg EL.id e2
     have z2:x.ch=z.ch:=congrArg EL.ch e2
     simp only[Option.map_some,elO]
     rw[gI hk,←z1,←z2];simp
   ·rw[if_neg hj,e2]
    cases hz:(cc (bc l))[j]? with
    |none=>rfl
    |some z=>
     simp only[Option.map_some,elO]
     rw[gI hk]
     have:¬o.i=z.i:=fun e=>by
      rw[hz]at e2
      exact hj (q9 (jX h) hn e2 e)
     rw[decide_eq_false this,Bool.or_false]
  refine⟨n,x.ch,hpl,hn,?_,hrow,?_⟩
  ·unfold cR;rw[hf];simp[hd]
  ·have hlen:n<(aj l).length:=(List.getElem?_eq_some_iff.1 hn).1
   exact fT (jX (Dn.snoc h hw)) (n:=n) (e:=⟨o.i,x.ch,true⟩) (by rw[hrow,List.getElem?_set,if_pos rfl,if_pos hlen])
theorem yx {l:List OP}(h:Dn l){o:OP}(hw:aq l o=0)(hk:o.k=0)(a:ID):cR (l++[o]) a=if a=o.i then some ⟨o.a,o.ch,false⟩else cR l a:=by
 obtain⟨hc,h1⟩:=bQ hw
 rcases h1 with⟨h1,_⟩|⟨_,hnew,ha,_⟩
 ·omega
 unfold cR
 rw[cP,gJ hk]
 by_cases e:a=o.i
 ·subst e
  have hd:b8 l o.i=false:=by
   unfold b8
   cases hf:au 1 o.i l with
   |none=>rfl
   |some y=>
    obtain⟨y1,y2,y3⟩:=be hf
    have:=h.is.dels y y1 y2
    rw[y3,hnew]at this;cases this
  rw[if_pos rfl,hnew,hd,au,if_pos ⟨hk,rfl⟩];rfl
 ·rw[if_neg e]
  have:au 0 a [o]=none:=by rw[au,if_neg (fun h=>e h.2.symm)];rfl
  rw[this,Option.or_none]
theorem yy {l:List OP}{o:OP}(hk:o.k=1)(a:ID):cR (l++[o]) a=if a=o.i then(cR l a).map (fun x=>⟨x.a,x.ch,true⟩)else cR l a:=by
 unfold cR
 have:au 0 a [o]=none:=by rw[au,if_neg (by rintro⟨h,_⟩;omega)];rfl
 rw[cP,this,Option.or_none,gI hk]
 by_cases e:a=o.i
 ·subst e;simp[Function.comp_def]
 ·rw[if_neg e,decide_eq_false (fun h=>e h.symm),Bool.or_false]
end Go.Proofs.E
end
section
namespace Go.Proofs.E
theorem fk {α:Type}{l:List α}{i:Nat}{x:α}(h:l[i]?=some x):l.take (i+1)=l.take i++[x]:=by
 rw[List.take_add_one,h];rfl
open Go Go.Gv
theorem uO {n:Int}(h:(Lit.int .u8 n).wf=true):0≤n∧n≤255:=by
 simp[Lit.wf,IntKind.min,IntKind.max,IntKind.signed,IntKind.bits]at h
 omega
theorem yi {n:Int}(h:(Lit.int .i64 n).wf=true):-9223372036854775808≤n∧n≤9223372036854775807:=by
 simp[Lit.wf,IntKind.min,IntKind.max,IntKind.signed,IntKind.bits]at h
 omega
end Go.Proofs.E
end
section
open Go Go.Gv
attribute [local irreducible] Go.Gv.WJ Go.Gv.OpJ Go.Gv.QJ Go.Gv.Spl Go.Gv.Req Go.Gv.IdxP Go.Gv.RegP Go.Gv.FinP Go.Gv.CellP Go.Gv.CellsP Go.Gv.ArrP Go.Gv.ArrsP Go.Gv.DropP Go.Gv.ByteP Go.Gv.StoreP
set_option maxRecDepth 100000
namespace Go.Proofs.E
abbrev putT (a:ID)(i:Nat)(st:List IE×Bool):T:=[(8,iv i),(7,bv st.2),(6,.arr 6 6 st.1.length)]
end Go.Proofs.E
namespace Go.Proofs.E
attribute [local irreducible] elems
def t6 (p:PT)(n:Int)(a:ID):Int:=if (oO p a).isSome=true then n else n+1
theorem ld {p:PT}{n:Int}{M:List IE}(h:isM p n M){a:ID}(ha:bg a=true)(e:EN):isM (PT.put 8 (bL a) e p) (t6 p n a) (fB a e M):=zQ h ha e
theorem lq {p:PT}{n:Int}{M:List IE}(h:isM p n M)(hl:M.length≤1000000)(a:ID)(e:EN)(ha:bg a=true):Cv 286 [lX p n,idv a,env e] (.tup [lX (PT.put 8 (bL a) e p) (t6 p n a),bv true]):=by
 have:=AN p n a e h.wf (by rw[h.len];omega) (by rw[h.len];omega)
 rw[if_pos ha]at this
 exact this
theorem yS {p:PT}{n:Int}{M:List IE}(h:isM p n M)(a:ID):Cv 284 [lX p n,idv a] (Ab (aZ a M)):=by
 have:=xA p n a h.wf
 rw[sK h]at this;exact this
theorem qF {p:PT}{n:Int}{M:List IE}(h:isM p n M):Cv 236 [lX p n] (idv (eQ M)):=by
 have:=yR p n h.wf
 rw[yc h]at this;exact this
theorem z6 {p:PT}{n:Int}{M:List IE}(h:isM p n M):xy tab Tryz.prog 302 [.d (zY p n)] (M.map ieA):=by
 have:=uA p n h.wf
 rw[AF h]at this;exact this
def ou (M:List IE):List UInt8:=M.foldl (fun s x=>s++(aQ x.1++(Utf8.encode x.2.ch).data.toList)) []
theorem tp (M:List IE)(x:IE):ou (M++[x])=ou M++(aQ x.1++(Utf8.encode x.2.ch).data.toList):=by simp[ou]
theorem xH:Cv 274 [] (bv true):=by
 have h1:=ld oN (a:=⟨2,1⟩) rfl ⟨⟨0,0⟩,98,false⟩
 have h2:=ld h1 (a:=⟨1,3⟩) rfl ⟨⟨0,0⟩,97,false⟩
 have p1:=lq oN (by simp) ⟨2,1⟩ ⟨⟨0,0⟩,98,false⟩ rfl
 have p2:=lq h1 (by simp[fB]) ⟨1,3⟩ ⟨⟨0,0⟩,97,false⟩ rfl
 have it:=z6 h2
 have la:=qF h2
 obtain⟨M,hM⟩:∃M,M=fB ⟨1,3⟩ ⟨⟨0,0⟩,97,false⟩ (fB ⟨2,1⟩ ⟨⟨0,0⟩,98,false⟩ []):=⟨_,rfl⟩
 rw[←hM]at it la h2
 generalize PT.put 8 (bL ⟨2,1⟩) ⟨⟨0,0⟩,98,false⟩ PT.nil=q1 at*
 generalize t6 PT.nil 0 ⟨2,1⟩=n1 at*
 generalize PT.put 8 (bL ⟨1,3⟩) ⟨⟨0,0⟩,97,false⟩ q1=q2 at*
 generalize t6 q1 n1 ⟨1,3⟩=n2 at*
 refine ab Tryz.f274 Tryz.func274 rfl rfl fun w H B g0=>?_
 refine aa p1 (fun _ _=>rfl) rfl rfl rfl ?_
 (repeat (first|refine Spl.t rfl ?_|refine Spl.f rfl ?_))
 refine aa p2 (fun _ _=>rfl) rfl rfl rfl ?_
 (repeat (first|refine Spl.t rfl ?_|refine Spl.f rfl ?_))
 refine aa (xK q2 n2) (fun _ _=>rfl) rfl rfl rfl ?_
 (repeat (first|refine Spl.t rfl ?_|refine Spl.f rfl ?_))
 refine aa (xK q2 n2) (fun _ _=>rfl) rfl rfl rfl ?_
 (repeat (first|refine Spl.t rfl ?_|refine Spl.f rfl ?_))
 have ht:(ou M).length≤100:=by rw[hM];decide+kernel
 refine kq ieA M (V:=List UInt8) (fun v=>[(4,.cells [sv v])]) [4] (fun pre v=>v=ou pre) (fun _ _ _=>False) [] it rfl rfl (.fn _ _) rfl (fun _ _=>rfl) rfl rfl (fun _=>rfl) (by repeat' (first|exact trivial|exact rfl|refine And.intro ?_ ?_)) rfl ?_ ?_ ?_
 ·intro l pre x post v hL hI w0 H0 B0 g1
  intro w0 H0 B0 g1
  have hlen:(ou pre).length+(aQ x.1++(Utf8.encode x.2.ch).data.toList).length≤100:=by
   rw[hL,ou,List.foldl_append,List.foldl_cons]at ht
   have hgrow:∀(P:List IE)(s:List UInt8),s.length≤(P.foldl (fun s x=>s++(aQ x.1++(Utf8.encode x.2.ch).data.toList)) s).length:=fun P=>by
    induction P with
    |nil=>intro s;exact Nat.le_refl _
    |cons y P ih=>intro s;exact Nat.le_trans (by simp) (ih _)
   have:=Nat.le_trans (hgrow post _) ht
   rw[List.length_append]at this
   exact this
  rw[List.length_append]at hlen
  refine RegP.of rfl (by decide+kernel) ?_
  refine QuietP.of (QJ.call (fL x.1) (fun _ _=>rfl) rfl rfl) ?_
  refine Req.of (by show(aQ x.1).length+(Utf8.encode x.2.ch).data.toList.length≤_;omega) ?_
  refine Req.of (by subst hI;show(ou pre).length+(aQ x.1++(Utf8.encode x.2.ch).data.toList).length≤_;rw[List.length_append];omega) ?_
  exact⟨ou (pre++[x]),rfl,⟨congrArg (fun l=>some (Ent.cells [sv l])) (by rw[tp,hI]),(by repeat' (first|exact trivial|exact rfl|refine And.intro ?_ ?_))⟩⟩
 ·intro v hI
  subst hI
  refine aa lu (fun _ _=>rfl) rfl rfl rfl ?_
  (repeat (first|refine Spl.t rfl ?_|refine Spl.f rfl ?_))
  refine Spl.t (by rw[hM];decide+kernel) ?_
  (repeat (first|refine Spl.t rfl ?_|refine Spl.f rfl ?_))
  refine aa la (fun _ _=>rfl) rfl rfl rfl ?_
  (repeat (first|refine Spl.t rfl ?_|refine Spl.f rfl ?_))
  refine bq (O.eqT 3 rfl rfl rfl rfl rfl mE p6 (eqI (eQ M) ⟨2,1⟩)) rfl ?_
  (repeat (first|refine Spl.t rfl ?_|refine Spl.f rfl ?_))
  exact FinP.open rfl (congrArg bv (by rw[hM];decide+kernel))
 ·intro c p v h
  exact h.elim
theorem ob {M:List IE}(h:upM M){x:IE}(hx:x∈M):aZ x.1 M=some x.2:=by
 induction M with
 |nil=>simp at hx
 |cons y l ih=>
  obtain⟨h1,h2⟩:=List.pairwise_cons.1 h
  rw[aZ]
  rcases List.mem_cons.1 hx with rfl|hx
  ·rw[if_pos rfl]
  ·rw[if_neg (fun e=>bV y.1 (by have:=h1 x hx;rw[e]at this;exact this)),ih h2 hx]
end Go.Proofs.E
namespace Go.Proofs.E
theorem x9 (a b:Nat):(if (b:Int)>(a:Int)then(b:Int)else(a:Int))=((Nat.max a b:Nat):Int):=by
 have:Nat.max a b=max a b:=rfl
 rw[this]
 split<;>omega
theorem cG (l r:TR)(e:EL)(hl:l.size+r.size≤1000000):Cv 310 [.d l.d,elv e,.d r.d] (.d (TR.node l e r).d):=by
 have h1:=l.live_le
 have h2:=r.live_le
 have h3:=l.deep_le
 have h4:=r.deep_le
 have h5:TR.one e≤1:=by unfold TR.one;split<;>omega
 have h6:Nat.max l.deep r.deep≤l.size+r.size:=Nat.max_le.2 ⟨by omega,by omega⟩
 have e1:IntKind.i64.wrap (IntKind.i64.wrap ((l.size:Int)+1)+(r.size:Int))=((l.size+1+r.size:Nat):Int):=by
  rw[am (_+1) (by omega) (by omega),am _ (by omega) (by omega)];omega
 have e2:IntKind.i64.wrap (IntKind.i64.wrap ((l.live:Int)+(TR.one e:Int))+(r.live:Int))=((l.live+TR.one e+r.live:Nat):Int):=by
  rw[am (_+(TR.one e:Int)) (by omega) (by omega),am _ (by omega) (by omega)];omega
 have e3:IntKind.i64.wrap ((if (r.deep:Int)>(l.deep:Int)then(r.deep:Int)else(l.deep:Int))+1)=((Nat.max l.deep r.deep+1:Nat):Int):=by
  rw[x9,am _ (by omega) (by omega)];omega
 refine ab Tryz.f310 Tryz.func310 rfl rfl fun w H B g0=>?_
 refine aB 0 25 [] rfl (by decide+kernel) ?_
 refine QuietP.of (QJ.call (cE l) (fun _ _=>rfl) rfl rfl) ?_
 refine QuietP.of (QJ.call (cE r) (fun _ _=>rfl) rfl rfl) ?_
 refine QuietP.of (QJ.call (l6 l) (fun _ _=>rfl) rfl rfl) ?_
 refine QuietP.of (QJ.call (sy e) (fun _ _=>rfl) rfl rfl) ?_
 refine QuietP.of (QJ.call (l6 r) (fun _ _=>rfl) rfl rfl) ?_
 refine QuietP.of (QJ.call (wB l) (fun _ _=>rfl) rfl rfl) ?_
 refine QuietP.of (QJ.call (wB r) (fun _ _=>rfl) rfl rfl) ?_
 (repeat' (refine And.intro ?_ ?_))
 refine FinP.pub 31 rfl rfl (FinP.open rfl ?_)
 rw[TR.d,←e1,←e2,←e3];rfl
theorem g8 (a b:Nat):decide ((a:Int)<(b:Int))=Nat.blt a b:=by
 by_cases h:a<b
 ·rw[decide_eq_true (by omega)];exact(Nat.blt_eq.mpr h).symm
 ·rw[decide_eq_false (by omega)]
  cases hb:Nat.blt a b with
  |false=>rfl
  |true=>exact absurd (Nat.blt_eq.mp hb) h
theorem yG (a b:Nat):decide ((a:Int)≤(b:Int))=Nat.ble a b:=by
 by_cases h:a≤b
 ·rw[decide_eq_true (by omega),Nat.ble_eq_true_of_le h]
 ·rw[decide_eq_false (by omega)]
  cases hb:Nat.ble a b with
  |false=>rfl
  |true=>exact absurd (Nat.le_of_ble_eq_true hb) h
theorem cA {a b:Nat}(h:Nat.blt a b=true):a<b:=Nat.blt_eq.mp h
theorem cQ {a b:Nat}(h:Nat.blt a b=false):b≤a:=by
 rcases Nat.lt_or_ge a b with h1|h1
 ·rw[Nat.blt_eq.mpr h1]at h;cases h
 ·exact h1
theorem n9 {a b:Nat}(h:Nat.ble a b=false):b<a:=by
 rcases Nat.lt_or_ge b a with h1|h1
 ·exact h1
 ·rw[Nat.ble_eq_true_of_le h1]at h;cases h
theorem dbl (n:Nat)(h:n≤1000000):IntKind.i64.wrap (2*(n:Int))=((2*n:Nat):Int):=by rw[am _ (by omega) (by omega)];omega
theorem tri (n:Nat)(h:n≤1000000):IntKind.i64.wrap (3*(n:Int))=((3*n:Nat):Int):=by rw[am _ (by omega) (by omega)];omega
theorem xQ (l r:TR)(e:EL)(hl:l.size+r.size≤900000)(hr:0<r.size):Cv 316 [.d l.d,elv e,.d r.d] (.d (TR.turnL l e r).d):=by
 cases r with
 |nil=>simp[TR.size]at hr
 |node rl re rr=>
  simp only[TR.size]at hl
  refine ab Tryz.f316 Tryz.func316 rfl rfl fun w H B g0=>?_
  refine RegP.of rfl (by decide+kernel) ?_
  refine QuietP.of (QJ.call (dy rl (by omega)) (fun _ _=>rfl) rfl rfl) ?_
  refine QuietP.of (QJ.call (dy rr (by omega)) (fun _ _=>rfl) rfl rfl) ?_
  have hc:decide ((rl.wt:Int)<IntKind.i64.wrap (2*(rr.wt:Int)))=Nat.blt rl.wt (2*rr.wt):=by rw[dbl _ (by unfold TR.wt;omega),g8]
  refine Spl.of (fun h=>?_) (fun h=>?_)
  ·have h:=hc.symm.trans h
   have ht:TR.turnL l e (.node rl re rr)=.node (.node l e rl) re rr:=by simp only[TR.turnL,h]
   rw[ht]
   (repeat (first|refine Spl.t rfl ?_|refine Spl.f rfl ?_))
   refine RegP.of rfl (by decide+kernel) ?_
   refine QuietP.of (QJ.call (cG l rl e (by omega)) (fun _ _=>rfl) rfl rfl) ?_
   refine QuietP.of (QJ.call (cG (.node l e rl) rr re (by simp only[TR.size];omega)) (fun _ _=>rfl) rfl rfl) ?_
   exact FinP.open rfl rfl
  ·have h:=hc.symm.trans h
   have h2:=cQ h
   cases rl with
   |nil=>unfold TR.wt at h2;simp only[TR.size]at h2;omega
   |node ml me mr=>
    have ht:TR.turnL l e (.node (.node ml me mr) re rr)=.node (.node l e ml) me (.node mr re rr):=by simp only[TR.turnL,h]
    simp only[TR.size]at hl
    rw[ht]
    (repeat (first|refine Spl.t rfl ?_|refine Spl.f rfl ?_))
    refine RegP.of rfl (by decide+kernel) ?_
    refine QuietP.of (QJ.call (cG l ml e (by omega)) (fun _ _=>rfl) rfl rfl) ?_
    refine QuietP.of (QJ.call (cG mr rr re (by omega)) (fun _ _=>rfl) rfl rfl) ?_
    refine QuietP.of (QJ.call (cG (.node l e ml) (.node mr re rr) me (by simp only[TR.size];omega)) (fun _ _=>rfl) rfl rfl) ?_
    exact FinP.open rfl rfl
theorem xP (l r:TR)(e:EL)(hl:l.size+r.size≤900000)(hr:0<l.size):Cv 317 [.d l.d,elv e,.d r.d] (.d (TR.turnR l e r).d):=by
 cases l with
 |nil=>simp[TR.size]at hr
 |node ll le lr=>
  simp only[TR.size]at hl
  refine ab Tryz.f317 Tryz.func317 rfl rfl fun w H B g0=>?_
  refine RegP.of rfl (by decide+kernel) ?_
  refine QuietP.of (QJ.call (dy lr (by omega)) (fun _ _=>rfl) rfl rfl) ?_
  refine QuietP.of (QJ.call (dy ll (by omega)) (fun _ _=>rfl) rfl rfl) ?_
  have hc:decide ((lr.wt:Int)<IntKind.i64.wrap (2*(ll.wt:Int)))=Nat.blt lr.wt (2*ll.wt):=by rw[dbl _ (by unfold TR.wt;omega),g8]
  refine Spl.of (fun h=>?_) (fun h=>?_)
  ·have h:=hc.symm.trans h
   have ht:TR.turnR (.node ll le lr) e r=.node ll le (.node lr e r):=by simp only[TR.turnR,h]
   rw[ht]
   (repeat (first|refine Spl.t rfl ?_|refine Spl.f rfl ?_))
   refine RegP.of rfl (by decide+kernel) ?_
   refine QuietP.of (QJ.call (cG lr r e (by omega)) (fun _ _=>rfl) rfl rfl) ?_
   refine QuietP.of (QJ.call (cG ll (.node lr e r) le (by simp only[TR.size];omega)) (fun _ _=>rfl) rfl rfl) ?_
   exact FinP.open rfl rfl
  ·have h:=hc.symm.trans h
   have h2:=cQ h
   cases lr with
   |nil=>unfold TR.wt at h2;simp only[TR.size]at h2;omega
   |node ml me mr=>
    have ht:TR.turnR (.node ll le (.node ml me mr)) e r=.node (.node ll le ml) me (.node mr e r):=by simp only[TR.turnR,h]
    simp only[TR.size]at hl
    rw[ht]
    (repeat (first|refine Spl.t rfl ?_|refine Spl.f rfl ?_))
    refine RegP.of rfl (by decide+kernel) ?_
    refine QuietP.of (QJ.call (cG ll ml le (by omega)) (fun _ _=>rfl) rfl rfl) ?_
    refine QuietP.of (QJ.call (cG mr r e (by omega)) (fun _ _=>rfl) rfl rfl) ?_
    refine QuietP.of (QJ.call (cG (.node ll le ml) (.node mr e r) me (by simp only[TR.size];omega)) (fun _ _=>rfl) rfl rfl) ?_
    exact FinP.open rfl rfl
theorem zf (l r:TR)(e:EL)(hl:l.size+r.size≤900000):Cv 311 [.d l.d,elv e,.d r.d] (.d (TR.bal l e r).d):=by
 have c1:decide ((r.wt:Int)>IntKind.i64.wrap (3*(l.wt:Int)))=Nat.blt (3*l.wt) r.wt:=by rw[tri _ (by unfold TR.wt;omega)];exact g8 _ _
 have c2:decide ((l.wt:Int)>IntKind.i64.wrap (3*(r.wt:Int)))=Nat.blt (3*r.wt) l.wt:=by rw[tri _ (by unfold TR.wt;omega)];exact g8 _ _
 refine ab Tryz.f311 Tryz.func311 rfl rfl fun w H B g0=>?_
 refine aa (dy r (by omega)) (fun _ _=>rfl) rfl rfl rfl ?_
 refine aa (dy l (by omega)) (fun _ _=>rfl) rfl rfl rfl ?_
 refine Spl.of (fun h=>?_) (fun h=>?_)
 ·have h:=c1.symm.trans h
  have h2:=cA h
  rw[TR.bal,h]
  refine aa (xQ l r e hl (by unfold TR.wt at h2;omega)) (fun _ _=>rfl) rfl rfl rfl ?_
  exact FinP.open rfl rfl
 ·have h:=c1.symm.trans h
  refine aa (dy l (by omega)) (fun _ _=>rfl) rfl rfl rfl ?_
  refine aa (dy r (by omega)) (fun _ _=>rfl) rfl rfl rfl ?_
  refine Spl.of (fun h3=>?_) (fun h3=>?_)
  ·have h3:=c2.symm.trans h3
   have h2:=cA h3
   rw[TR.bal,h,h3]
   refine aa (xP l r e hl (by unfold TR.wt at h2;omega)) (fun _ _=>rfl) rfl rfl rfl ?_
   exact FinP.open rfl rfl
  ·have h3:=c2.symm.trans h3
   rw[TR.bal,h,h3]
   refine aa (cG l r e (by omega)) (fun _ _=>rfl) rfl rfl rfl ?_
   exact FinP.open rfl rfl
theorem iU (i:Nat)(e:EL)(t:TR)(h:i≤t.size):(TR.ins i e t).size=t.size+1:=by
 rw[←TR.els_len,TR.els_ins i e t h,List.length_append,List.length_cons,List.length_take,List.length_drop,TR.els_len];omega
theorem iT (i:Nat)(e:EL)(t:TR)(h:i<t.size):(TR.set i e t).size=t.size:=by
 rw[←TR.els_len,TR.els_set i e t h,List.length_set,TR.els_len]
theorem v7:∀(t:TR)(i:Nat)(e:EL),t.size≤800000→i≤t.size→Cv 301 [.d t.d,iv i,elv e] (.d (TR.ins i e t).d)
 |.nil,i,e,_,_=>by
  refine ab Tryz.f301 Tryz.func301 rfl rfl fun w H B g0=>?_
  (repeat (first|refine Spl.t rfl ?_|refine Spl.f rfl ?_))
  refine aa (cG .nil .nil e (by simp[TR.size])) (fun _ _=>rfl) rfl rfl rfl ?_
  exact FinP.open rfl rfl
 |.node l x r,i,e,hs,hi=>by
  simp only[TR.size]at hs hi
  have c1:decide ((i:Int)≤(l.size:Int))=Nat.ble i l.size:=yG _ _
  refine ab Tryz.f301 Tryz.func301 rfl rfl fun w H B g0=>?_
  (repeat (first|refine Spl.t rfl ?_|refine Spl.f rfl ?_))
  refine aa (cE l) (fun _ _=>rfl) rfl rfl rfl ?_
  refine Spl.of (fun h=>?_) (fun h=>?_)
  ·have h:=c1.symm.trans h
   have h1:=Nat.le_of_ble_eq_true h
   have hz:=iU i e l h1
   have ht:TR.ins i e (.node l x r)=TR.bal (TR.ins i e l) x r:=by rw[TR.ins,h]
   rw[ht]
   (repeat (first|refine Spl.t rfl ?_|refine Spl.f rfl ?_))
   refine RegP.of rfl (by decide+kernel) ?_
   refine QuietP.of (QJ.call (v7 l i e (by omega) h1) (fun _ _=>rfl) rfl rfl) ?_
   refine QuietP.of (QJ.call (zf (TR.ins i e l) r x (by omega)) (fun _ _=>rfl) rfl rfl) ?_
   exact FinP.open rfl rfl
  ·have h:=c1.symm.trans h
   have h1:=n9 h
   have hz:=iU (i-l.size-1) e r (by omega)
   have ht:TR.ins i e (.node l x r)=TR.bal l x (TR.ins (i-l.size-1) e r):=by rw[TR.ins,h]
   have e1:IntKind.i64.wrap (IntKind.i64.wrap ((i:Int)-(l.size:Int))-1)=((i-l.size-1:Nat):Int):=by
    rw[am ((i:Int)-(l.size:Int)) (by omega) (by omega),am _ (by omega) (by omega)];omega
   rw[ht]
   (repeat (first|refine Spl.t rfl ?_|refine Spl.f rfl ?_))
   refine RegP.of rfl (by decide+kernel) ?_
   refine QuietP.of (QJ.call (cE l) (fun _ _=>rfl) rfl rfl) ?_
   refine QuietP.of (QJ.call (v7 r (i-l.size-1) e (by omega) (by omega)) (fun _ _=>rfl) (by rw[←e1];rfl) rfl) ?_
   refine QuietP.of (QJ.call (zf l (TR.ins (i-l.size-1) e r) x (by omega)) (fun _ _=>rfl) rfl rfl) ?_
   exact FinP.open rfl rfl
theorem u7:∀(t:TR)(i:Nat)(e:EL),t.size≤800000→i<t.size→Cv 299 [.d t.d,iv i,elv e] (.d (TR.set i e t).d)
 |.nil,i,e,_,hi=>by simp[TR.size]at hi
 |.node l x r,i,e,hs,hi=>by
  simp only[TR.size]at hs hi
  have c1:decide ((i:Int)<(l.size:Int))=Nat.blt i l.size:=g8 _ _
  have c2:decide ((i:Int)>(l.size:Int))=Nat.blt l.size i:=g8 _ _
  refine ab Tryz.f299 Tryz.func299 rfl rfl fun w H B g0=>?_
  (repeat (first|refine Spl.t rfl ?_|refine Spl.f rfl ?_))
  refine aa (cE l) (fun _ _=>rfl) rfl rfl rfl ?_
  refine Spl.of (fun h=>?_) (fun h=>?_)
  ·have h:=c1.symm.trans h
   have h1:=cA h
   have hz:=iT i e l h1
   have ht:TR.set i e (.node l x r)=.node (TR.set i e l) x r:=by rw[TR.set,h]
   rw[ht]
   (repeat (first|refine Spl.t rfl ?_|refine Spl.f rfl ?_))
   refine RegP.of rfl (by decide+kernel) ?_
   refine QuietP.of (QJ.call (u7 l i e (by omega) h1) (fun _ _=>rfl) rfl rfl) ?_
   refine QuietP.of (QJ.call (cG (TR.set i e l) r x (by omega)) (fun _ _=>rfl) rfl rfl) ?_
   exact FinP.open rfl rfl
  ·have h:=c1.symm.trans h
   have h1:=cQ h
   refine Spl.of (fun h3=>?_) (fun h3=>?_)
   ·have h3:=c2.symm.trans h3
    have h4:=cA h3
    have hz:=iT (i-l.size-1) e r (by omega)
    have ht:TR.set i e (.node l x r)=.node l x (TR.set (i-l.size-1) e r):=by rw[TR.set,h,h3]
    have e1:IntKind.i64.wrap (IntKind.i64.wrap ((i:Int)-(l.size:Int))-1)=((i-l.size-1:Nat):Int):=by
     rw[am ((i:Int)-(l.size:Int)) (by omega) (by omega),am _ (by omega) (by omega)];omega
    rw[ht]
    (repeat (first|refine Spl.t rfl ?_|refine Spl.f rfl ?_))
    refine RegP.of rfl (by decide+kernel) ?_
    refine QuietP.of (QJ.call (u7 r (i-l.size-1) e (by omega) (by omega)) (fun _ _=>rfl) (by rw[←e1];rfl) rfl) ?_
    refine QuietP.of (QJ.call (cG l (TR.set (i-l.size-1) e r) x (by omega)) (fun _ _=>rfl) rfl rfl) ?_
    exact FinP.open rfl rfl
   ·have h3:=c2.symm.trans h3
    have ht:TR.set i e (.node l x r)=.node l e r:=by rw[TR.set,h,h3]
    rw[ht]
    (repeat (first|refine Spl.t rfl ?_|refine Spl.f rfl ?_))
    refine RegP.of rfl (by decide+kernel) ?_
    refine QuietP.of (QJ.call (cG l r e (by omega)) (fun _ _=>rfl) rfl rfl) ?_
    exact FinP.open rfl rfl
end Go.Proofs.E
namespace Go.Proofs.E
abbrev tv (t:TR):AV:=.agg [.d t.d]
theorem iN (t:TR):Cv 198 [tv t] (iv t.size):=by
 refine ab Tryz.f198 Tryz.func198 rfl rfl fun w H B g0=>?_
 refine aa (cE t) (fun _ _=>rfl) rfl rfl rfl ?_
 exact FinP.open rfl rfl
theorem qr (t:TR):Cv 234 [tv t] (iv t.live):=by
 refine ab Tryz.f234 Tryz.func234 rfl rfl fun w H B g0=>?_
 refine aa (l6 t) (fun _ _=>rfl) rfl rfl rfl ?_
 exact FinP.open rfl rfl
def hasT (t:TR)(i:Int):Bool:=decide (0≤i∧i<t.size)
theorem za (t:TR)(i:Int):Cv 266 [tv t,iv i] (bv (hasT t i)):=by
 refine ab Tryz.f266 Tryz.func266 rfl rfl fun w H B g0=>?_
 refine Spl.of (fun h=>?_) (fun h=>?_)
 ·have h0:0≤i:=of_decide_eq_true h
  (repeat (first|refine Spl.t rfl ?_|refine Spl.f rfl ?_))
  refine aa (iN t) (fun _ _=>rfl) rfl rfl rfl ?_
  (repeat (first|refine Spl.t rfl ?_|refine Spl.f rfl ?_))
  refine FinP.open rfl (congrArg bv ?_)
  unfold hasT
  exact decide_eq_decide.2 ⟨fun h=>⟨h0,h⟩,fun h=>h.2⟩
 ·have h0:¬0≤i:=of_decide_eq_false h
  (repeat (first|refine Spl.t rfl ?_|refine Spl.f rfl ?_))
  refine FinP.open rfl (congrArg bv ?_)
  unfold hasT
  exact(decide_eq_false fun h=>h0 h.1).symm
def iF (t:TR)(i:Int)(e:EL):TR:=if 0≤i∧i≤t.size then TR.ins i.toNat e t else t
def sH (t:TR)(i:Int):Bool:=decide (0≤i∧i≤t.size)
theorem jO (t:TR)(i:Int)(e:EL)(hs:t.size≤800000):Cv 289 [tv t,iv i,elv e] (.tup [tv (iF t i e),bv (sH t i)]):=by
 refine ab Tryz.f289 Tryz.func289 rfl rfl fun w H B g0=>?_
 refine Spl.of (fun h=>?_) (fun h=>?_)
 ·have h0:i<0:=of_decide_eq_true h
  (repeat (first|refine Spl.t rfl ?_|refine Spl.f rfl ?_))
  refine FinP.open rfl ?_
  rw[iF,if_neg (by omega),sH,decide_eq_false (by omega)];rfl
 ·have h0:¬i<0:=of_decide_eq_false h
  (repeat (first|refine Spl.t rfl ?_|refine Spl.f rfl ?_))
  refine aa (iN t) (fun _ _=>rfl) rfl rfl rfl ?_
  (repeat (first|refine Spl.t rfl ?_|refine Spl.f rfl ?_))
  refine Spl.of (fun h1=>?_) (fun h1=>?_)
  ·have h1:i>(t.size:Int):=of_decide_eq_true h1
   (repeat (first|refine Spl.t rfl ?_|refine Spl.f rfl ?_))
   refine FinP.open rfl ?_
   rw[iF,if_neg (by omega),sH,decide_eq_false (by omega)];rfl
  ·have h1:¬i>(t.size:Int):=of_decide_eq_false h1
   obtain⟨k,rfl⟩:=Int.eq_ofNat_of_zero_le (show 0≤i by omega)
   (repeat (first|refine Spl.t rfl ?_|refine Spl.f rfl ?_))
   refine aa (v7 t k e hs (by omega)) (fun _ _=>rfl) rfl rfl rfl ?_
   (repeat (first|refine Spl.t rfl ?_|refine Spl.f rfl ?_))
   refine FinP.open rfl ?_
   rw[iF,if_pos (by omega),sH,decide_eq_true (by omega)];rfl
def pr (t:TR)(i:Int)(e:EL):TR:=if hasT t i=true then TR.set i.toNat e t else t
theorem mq {t:TR}{i:Int}(h:hasT t i=true):0≤i∧i<t.size:=of_decide_eq_true h
theorem v9 {t:TR}{i:Int}(h:hasT t i=false):¬(0≤i∧i<t.size):=of_decide_eq_false h
theorem Bo (t:TR)(i:Int)(e:EL)(hs:t.size≤800000):Cv 285 [tv t,iv i,elv e] (.tup [tv (pr t i e),bv (hasT t i)]):=by
 refine ab Tryz.f285 Tryz.func285 rfl rfl fun w H B g0=>?_
 refine aa (za t i) (fun _ _=>rfl) rfl rfl rfl ?_
 refine Spl.of (fun h=>?_) (fun h=>?_)
 ·have h0:hasT t i=false:=by simpa using h
  (repeat (first|refine Spl.t rfl ?_|refine Spl.f rfl ?_))
  refine FinP.open rfl ?_
  rw[pr,if_neg (by rw[h0];decide),h0];rfl
 ·have h0:hasT t i=true:=by simpa using h
  obtain⟨h1,h2⟩:=mq h0
  obtain⟨k,rfl⟩:=Int.eq_ofNat_of_zero_le h1
  (repeat (first|refine Spl.t rfl ?_|refine Spl.f rfl ?_))
  refine aa (u7 t k e hs (by omega)) (fun _ _=>rfl) rfl rfl rfl ?_
  (repeat (first|refine Spl.t rfl ?_|refine Spl.f rfl ?_))
  refine FinP.open rfl ?_
  rw[pr,if_pos h0,h0];rfl
def EL0:EL:=⟨⟨0,0⟩,0,false⟩
def atT (t:TR)(i:Int):Option EL:=if 0≤i then t.els[i.toNat]? else none
def atv:Option EL→AV
 |some e=>.tup [elv e,bv true]
 |none=>.tup [elv EL0,bv false]
theorem yT (t:TR)(i:Int)(hs:t.size≤800000):Cv 239 [tv t,iv i] (atv (atT t i)):=by
 refine ab Tryz.f239 Tryz.func239 rfl rfl fun w H B g0=>?_
 refine aa (za t i) (fun _ _=>rfl) rfl rfl rfl ?_
 refine Spl.of (fun h=>?_) (fun h=>?_)
 ·have h0:hasT t i=false:=by simpa using h
  have h1:=v9 h0
  (repeat (first|refine Spl.t rfl ?_|refine Spl.f rfl ?_))
  refine FinP.open rfl ?_
  have:atT t i=none:=by
   unfold atT
   split
   ·rw[List.getElem?_eq_none (by rw[TR.els_len];omega)]
   ·rfl
  rw[this];rfl
 ·have h0:hasT t i=true:=by simpa using h
  obtain⟨h1,h2⟩:=mq h0
  obtain⟨k,rfl⟩:=Int.eq_ofNat_of_zero_le h1
  (repeat (first|refine Spl.t rfl ?_|refine Spl.f rfl ?_))
  refine ba (V:=TR×Nat) (fun v=>[(6,.d v.1.d),(1,iv v.2)]) (fun _=>[]) [] (fun v=>v.1.size) (fun v=>v.2<v.1.size∧v.1.size≤800000∧v.1.els[v.2]?=t.els[k]?) (t,k) ⟨by simp only;omega,hs,rfl⟩ (by repeat' (first|exact trivial|exact rfl|refine And.intro ?_ ?_)) (by repeat' (first|exact trivial|exact rfl|refine And.intro ?_ ?_)) ?_
  rintro⟨n,j⟩ ⟨hj,hn,he⟩
  simp only at hj hn he
  cases n with
  |nil=>simp[TR.size]at hj
  |node l x r=>
   have hll:=TR.els_len l
   simp only[TR.size]at hj hn
   refine aa (cE l) (fun _ _=>rfl) rfl rfl rfl ?_
   refine Spl.of (fun h3=>?_) (fun h3=>?_)
   ·have h3:¬(j:Int)=(l.size:Int):=by simpa using h3
    (repeat (first|refine Spl.t rfl ?_|refine Spl.f rfl ?_))
    refine aa (cE l) (fun _ _=>rfl) rfl rfl rfl ?_
    refine Spl.of (fun h4=>?_) (fun h4=>?_)
    ·have h4:(j:Int)<(l.size:Int):=of_decide_eq_true h4
     (repeat (first|refine Spl.t rfl ?_|refine Spl.f rfl ?_))
     refine⟨(l,j),⟨by simp only;omega,by simp only;omega,?_⟩,by simp only[TR.size];omega,(by repeat' (first|exact trivial|exact rfl|refine And.intro ?_ ?_)),(by repeat' (first|exact trivial|exact rfl|refine And.intro ?_ ?_)),(by repeat' (first|exact trivial|exact rfl|refine And.intro ?_ ?_)),(by repeat' (first|exact trivial|exact rfl|refine And.intro ?_ ?_))⟩
     rw[←he,TR.els,List.getElem?_append_left (by omega)]
    ·have h4:¬(j:Int)<(l.size:Int):=of_decide_eq_false h4
     have e1:IntKind.i64.wrap (IntKind.i64.wrap ((j:Int)-(l.size:Int))-1)=((j-l.size-1:Nat):Int):=by
      rw[am ((j:Int)-(l.size:Int)) (by omega) (by omega),am _ (by omega) (by omega)];omega
     (repeat (first|refine Spl.t rfl ?_|refine Spl.f rfl ?_))
     refine RegP.of rfl (by decide+kernel) ?_
     refine QuietP.of (QJ.call (cE l) (fun _ _=>rfl) rfl rfl) ?_
     refine⟨(r,j-l.size-1),⟨by simp only;omega,by simp only;omega,?_⟩,by simp only[TR.size];omega,⟨rfl,aE e1,trivial⟩,(by repeat' (first|exact trivial|exact rfl|refine And.intro ?_ ?_)),(by repeat' (first|exact trivial|exact rfl|refine And.intro ?_ ?_)),(by repeat' (first|exact trivial|exact rfl|refine And.intro ?_ ?_))⟩
     rw[←he,TR.els,List.getElem?_append_right (by omega),hll]
     obtain⟨m,hm⟩:∃m,j=l.size+(m+1):=⟨j-l.size-1,by omega⟩
     subst hm
     rw[show l.size+(m+1)-l.size-1=m by omega,show l.size+(m+1)-l.size=m+1 by omega,List.getElem?_cons_succ]
   ·have h3:(j:Int)=(l.size:Int):=by simpa using h3
    have h4:j=l.size:=by omega
    subst h4
    have:atT t ((k:Nat):Int)=some x:=by
     unfold atT
     rw[if_pos (by omega),Int.toNat_natCast,←he,TR.els,List.getElem?_append_right (by omega),hll,Nat.sub_self];rfl
    rw[this]
    (repeat (first|refine Spl.t rfl ?_|refine Spl.f rfl ?_))
    exact FinP.open rfl rfl
def bO (L:List EL)(i:Int):Nat:=((L.take i.toNat).filter fun e=>!e.dead).length
theorem tO (A B:List EL)(i:Int)(h:i≤A.length):bO (A++B) i=bO A i:=by
 unfold bO;rw[List.take_append_of_le_length (by omega)]
theorem qW (A:List EL)(x:EL)(B:List EL)(i:Int)(h:(A.length:Int)<i):bO (A++x::B) i=(A.filter fun e=>!e.dead).length+TR.one x+bO B (i-A.length-1):=by
 unfold bO
 obtain⟨m,rfl⟩:=Int.eq_ofNat_of_zero_le (show 0≤i-A.length-1 by omega) |>.imp fun m hm=>show i=((A.length+(m+1):Nat):Int)by omega
 rw[Int.toNat_natCast,List.take_length_add_append,List.take_succ_cons,List.filter_append,List.length_append,List.filter_cons,show(((A.length+(m+1):Nat):Int)-A.length-1).toNat=m by omega,TR.one]
 cases x.dead with
 |true=>simp
 |false=>simp;omega
theorem rY (t:TR)(i:Int)(hs:t.size≤800000)(h0:-9223372036854775808≤i)(h1:i≤9223372036854775807):Cv 246 [tv t,iv i] (iv (bO t.els i)):=by
 refine ab Tryz.f246 Tryz.func246 rfl rfl fun w H B g0=>?_
 refine ba (V:=TR×Int×Nat) (fun v=>[(6,.d v.1.d),(1,iv v.2.1),(5,iv v.2.2)]) (fun _=>[]) [] (fun v=>v.1.size) (fun v=>v.1.size≤800000∧-9223372036854775808≤v.2.1∧v.2.1≤9223372036854775807∧v.2.2+v.1.live≤t.size∧v.2.2+bO v.1.els v.2.1=bO t.els i) (t,i,0) ⟨hs,h0,h1,by simp only[Nat.zero_add];exact t.live_le,by simp⟩ (by repeat' (first|exact trivial|exact rfl|refine And.intro ?_ ?_)) (by repeat' (first|exact trivial|exact rfl|refine And.intro ?_ ?_)) ?_
 rintro⟨n,j,m⟩ ⟨hn,hj0,hj1,hm,he⟩
 simp only at hn hj0 hj1 hm he
 cases n with
 |nil=>
  (repeat (first|refine Spl.t rfl ?_|refine Spl.f rfl ?_))
  refine FinP.open rfl (congrArg iv ?_)
  rw[←he];simp[bO,TR.els]
 |node l x r=>
  have hll:=TR.els_len l
  simp only[TR.size]at hn
  simp only[TR.live]at hm
  have hlv:=l.live_eq
  (repeat (first|refine Spl.t rfl ?_|refine Spl.f rfl ?_))
  refine aa (cE l) (fun _ _=>rfl) rfl rfl rfl ?_
  refine Spl.of (fun h2=>?_) (fun h2=>?_)
  ·have h2:j≤(l.size:Int):=of_decide_eq_true h2
   (repeat (first|refine Spl.t rfl ?_|refine Spl.f rfl ?_))
   refine⟨(l,j,m),⟨by simp only;omega,hj0,hj1,by simp only;omega,?_⟩,by simp only[TR.size];omega,(by repeat' (first|exact trivial|exact rfl|refine And.intro ?_ ?_)),(by repeat' (first|exact trivial|exact rfl|refine And.intro ?_ ?_)),(by repeat' (first|exact trivial|exact rfl|refine And.intro ?_ ?_)),(by repeat' (first|exact trivial|exact rfl|refine And.intro ?_ ?_))⟩
   rw[←he,TR.els,tO _ _ _ (by omega)]
  ·have h2:¬j≤(l.size:Int):=of_decide_eq_false h2
   (repeat (first|refine Spl.t rfl ?_|refine Spl.f rfl ?_))
   refine RegP.of rfl (by decide+kernel) ?_
   refine QuietP.of (QJ.call (l6 l) (fun _ _=>rfl) rfl rfl) ?_
   refine QuietP.of (QJ.call (sy x) (fun _ _=>rfl) rfl rfl) ?_
   have e1:IntKind.i64.wrap (IntKind.i64.wrap (j-(l.size:Int))-1)=j-(l.size:Int)-1:=by
    rw[am (j-(l.size:Int)) (by omega) (by omega),am _ (by omega) (by omega)]
   have e2:IntKind.i64.wrap ((m:Int)+IntKind.i64.wrap ((l.live:Int)+(TR.one x:Int)))=((m+(l.live+TR.one x):Nat):Int):=by
    rw[am ((l.live:Int)+(TR.one x:Int)) (by omega) (by omega),am _ (by omega) (by omega)];omega
   refine⟨(r,j-(l.size:Int)-1,m+(l.live+TR.one x)),⟨by simp only;omega,by simp only;omega,by simp only;omega,by simp only;omega,?_⟩,by simp only[TR.size];omega,⟨rfl,aE e1,aE e2,trivial⟩,(by repeat' (first|exact trivial|exact rfl|refine And.intro ?_ ?_)),(by repeat' (first|exact trivial|exact rfl|refine And.intro ?_ ?_)),(by repeat' (first|exact trivial|exact rfl|refine And.intro ?_ ?_))⟩
   simp only
   rw[←he,TR.els,qW _ _ _ _ (by omega),←hlv,hll];omega
def cu:Nat→List EL→Nat
 |_,[]=>0
 |k,e::r=>if e.dead=true then cu k r+1 else if k=0 then 0 else cu (k-1) r+1
def aT (L:List EL):Nat:=(L.filter fun e=>!e.dead).length
theorem ea (e:EL)(L:List EL):aT (e::L)=TR.one e+aT L:=by
 unfold aT TR.one;rw[List.filter_cons]
 cases e.dead with
 |true=>simp
 |false=>simp;omega
theorem iE (e:EL):TR.one e=if e.dead=true then 0 else 1:=by unfold TR.one;cases e.dead<;>rfl
theorem lE:∀(A B:List EL)(k:Nat),k<aT A→cu k (A++B)=cu k A
 |[],B,k,h=>by simp[aT]at h
 |e::A,B,k,h=>by
  rw[ea,iE]at h
  rw[List.cons_append,cu,cu]
  by_cases hd:e.dead=true
  ·rw[if_pos hd]at h;rw[if_pos hd,if_pos hd,lE A B k (by omega)]
  ·rw[if_neg hd]at h;rw[if_neg hd,if_neg hd]
   by_cases hk:k=0
   ·rw[if_pos hk,if_pos hk]
   ·rw[if_neg hk,if_neg hk,lE A B (k-1) (by omega)]
theorem gN:∀(A B:List EL)(k:Nat),aT A≤k→cu k (A++B)=A.length+cu (k-aT A) B
 |[],B,k,h=>by simp[aT]
 |e::A,B,k,h=>by
  rw[ea,iE]at h
  rw[ea,iE,List.cons_append,cu,List.length_cons]
  by_cases hd:e.dead=true
  ·rw[if_pos hd]at h
   rw[if_pos hd,if_pos hd,gN A B k (by omega),Nat.zero_add];omega
  ·rw[if_neg hd]at h
   rw[if_neg hd,if_neg hd,if_neg (by omega),gN A B (k-1) (by omega),show k-1-aT A=k-(1+aT A)by omega];omega
theorem qR:∀(L:List EL)(k:Nat),k<aT L→cu k L<L.length
 |[],k,h=>by simp[aT]at h
 |e::L,k,h=>by
  rw[ea,iE]at h
  rw[cu,List.length_cons]
  by_cases hd:e.dead=true
  ·rw[if_pos hd]at h;rw[if_pos hd];have:=qR L k (by omega);omega
  ·rw[if_neg hd]at h;rw[if_neg hd]
   split
   ·omega
   ·have:=qR L (k-1) (by omega);omega
theorem l5 (t:TR):t.live=aT t.els:=t.live_eq
def qS (t:TR)(k:Int):Nat:=if 0≤k∧k<t.live then cu k.toNat t.els else t.size
def nC (t:TR)(k:Int):Bool:=decide (0≤k∧k<t.live)
theorem qs (t:TR)(k:Int)(hs:t.size≤800000):Cv 238 [tv t,iv k] (.tup [iv (qS t k),bv (nC t k)]):=by
 refine ab Tryz.f238 Tryz.func238 rfl rfl fun w H B g0=>?_
 refine Spl.of (fun h=>?_) (fun h=>?_)
 ·have h0:k<0:=of_decide_eq_true h
  (repeat (first|refine Spl.t rfl ?_|refine Spl.f rfl ?_))
  refine aa (iN t) (fun _ _=>rfl) rfl rfl rfl ?_
  refine FinP.open rfl ?_
  rw[qS,if_neg (by omega),nC,decide_eq_false (by omega)];rfl
 ·have h0:¬k<0:=of_decide_eq_false h
  (repeat (first|refine Spl.t rfl ?_|refine Spl.f rfl ?_))
  refine aa (qr t) (fun _ _=>rfl) rfl rfl rfl ?_
  (repeat (first|refine Spl.t rfl ?_|refine Spl.f rfl ?_))
  refine Spl.of (fun h1=>?_) (fun h1=>?_)
  ·have h1:(t.live:Int)≤k:=of_decide_eq_true h1
   (repeat (first|refine Spl.t rfl ?_|refine Spl.f rfl ?_))
   refine aa (iN t) (fun _ _=>rfl) rfl rfl rfl ?_
   refine FinP.open rfl ?_
   rw[qS,if_neg (by omega),nC,decide_eq_false (by omega)];rfl
  ·have h1:¬(t.live:Int)≤k:=of_decide_eq_false h1
   obtain⟨k,rfl⟩:=Int.eq_ofNat_of_zero_le (show 0≤k by omega)
   (repeat (first|refine Spl.t rfl ?_|refine Spl.f rfl ?_))
   refine ba (V:=TR×Nat×Nat) (fun v=>[(7,.d v.1.d),(1,iv v.2.1),(6,iv v.2.2)]) (fun _=>[]) [] (fun v=>v.1.size) (fun v=>v.1.size≤800000∧v.2.1<v.1.live∧v.2.2+v.1.size≤t.size∧v.2.2+cu v.2.1 v.1.els=cu k t.els) (t,k,0) ⟨hs,by simp only;omega,by simp,by simp⟩ (by repeat' (first|exact trivial|exact rfl|refine And.intro ?_ ?_)) (by repeat' (first|exact trivial|exact rfl|refine And.intro ?_ ?_)) ?_
   rintro⟨n,j,m⟩ ⟨hn,hj,hm,he⟩
   simp only at hn hj hm he
   cases n with
   |nil=>simp[TR.live]at hj
   |node l x r=>
    have hll:=TR.els_len l
    have hlv:=l5 l
    have hle:=l.live_le
    have hre:=r.live_le
    have hone:TR.one x≤1:=by rw[iE];split<;>omega
    simp only[TR.size]at hn hm
    simp only[TR.live]at hj
    rw[TR.els]at he
    have hfin:j=l.live→x.dead=false→qS t (k:Int)=m+l.size:=fun h1 h2=>by
     rw[qS,if_pos (by omega),Int.toNat_natCast,←he,gN _ _ _ (by omega),cu,if_neg (by rw[h2];decide),if_pos (by omega),hll];rfl
    have hok:nC t (k:Int)=true:=by rw[nC,decide_eq_true (by omega)]
    have hgo:l.live<j∨j=l.live∧x.dead=true→TR.one x+l.live≤j∧j-(l.live+TR.one x)<r.live∧m+l.size+1+cu (j-(l.live+TR.one x)) r.els=cu k t.els:=fun h=>by
     rw[←he,gN _ _ _ (by omega),cu,hll]
     rw[iE]at hj ⊢
     by_cases hd:x.dead=true
     ·rw[if_pos hd]at hj
      rw[if_pos hd,if_pos hd,show j-aT l.els=j-(l.live+0)by omega]
      exact⟨by omega,by omega,by omega⟩
     ·rw[if_neg hd]at hj
      have hlt:l.live<j:=by
       rcases h with h|⟨_,h⟩
       ·exact h
       ·exact absurd h hd
      rw[if_neg hd,if_neg hd,if_neg (by omega),show j-aT l.els-1=j-(l.live+1)by omega]
      exact⟨by omega,by omega,by omega⟩
    have e2:IntKind.i64.wrap ((m:Int)+IntKind.i64.wrap ((l.size:Int)+1))=((m+l.size+1:Nat):Int):=by
     rw[am ((l.size:Int)+1) (by omega) (by omega),am _ (by omega) (by omega)];omega
    have e3:TR.one x+l.live≤j→IntKind.i64.wrap ((j:Int)-IntKind.i64.wrap ((l.live:Int)+(TR.one x:Int)))=((j-(l.live+TR.one x):Nat):Int):=fun h=>by
     rw[am ((l.live:Int)+(TR.one x:Int)) (by omega) (by omega),am _ (by omega) (by omega)];omega
    (repeat (first|refine Spl.t rfl ?_|refine Spl.f rfl ?_))
    refine aa (l6 l) (fun _ _=>rfl) rfl rfl rfl ?_
    refine Spl.of (fun h2=>?_) (fun h2=>?_)
    ·have h2:(j:Int)<(l.live:Int):=of_decide_eq_true h2
     (repeat (first|refine Spl.t rfl ?_|refine Spl.f rfl ?_))
     refine⟨(l,j,m),⟨by simp only;omega,by simp only;omega,by simp only;omega,?_⟩,by simp only[TR.size];omega,(by repeat' (first|exact trivial|exact rfl|refine And.intro ?_ ?_)),(by repeat' (first|exact trivial|exact rfl|refine And.intro ?_ ?_)),(by repeat' (first|exact trivial|exact rfl|refine And.intro ?_ ?_)),(by repeat' (first|exact trivial|exact rfl|refine And.intro ?_ ?_))⟩
     simp only
     rw[←he,lE _ _ _ (by omega)]
    ·have h2:¬(j:Int)<(l.live:Int):=of_decide_eq_false h2
     refine Spl.of (fun h3=>?_) (fun h3=>?_)
     ·have h3:(j:Int)=(l.live:Int):=of_decide_eq_true h3
      obtain⟨xi,xc,xd⟩:=x
      cases xd with
      |false=>
       (repeat (first|refine Spl.t rfl ?_|refine Spl.f rfl ?_))
       refine aa (cE l) (fun _ _=>rfl) rfl rfl rfl ?_
       refine FinP.open rfl ?_
       rw[hok,hfin (by omega) rfl,←show IntKind.i64.wrap ((m:Int)+(l.size:Int))=((m+l.size:Nat):Int)by rw[am _ (by omega) (by omega)];omega]
       rfl
      |true=>
       obtain⟨g1,g0,g2⟩:=hgo (.inr ⟨by omega,rfl⟩)
       (repeat (first|refine Spl.t rfl ?_|refine Spl.f rfl ?_))
       refine aa (cE l) (fun _ _=>rfl) rfl rfl rfl ?_
       refine aa (sy ⟨xi,xc,true⟩) (fun _ _=>rfl) rfl rfl rfl ?_
       refine⟨(r,j-(l.live+TR.one ⟨xi,xc,true⟩),m+l.size+1),⟨by simp only;omega,g0,by simp only;omega,g2⟩,by simp only[TR.size];omega,⟨rfl,aE (e3 g1),aE e2,trivial⟩,(by repeat' (first|exact trivial|exact rfl|refine And.intro ?_ ?_)),(by repeat' (first|exact trivial|exact rfl|refine And.intro ?_ ?_)),(by repeat' (first|exact trivial|exact rfl|refine And.intro ?_ ?_))⟩
     ·have h3:¬(j:Int)=(l.live:Int):=of_decide_eq_false h3
      obtain⟨g1,g0,g2⟩:=hgo (.inl (by omega))
      (repeat (first|refine Spl.t rfl ?_|refine Spl.f rfl ?_))
      refine aa (cE l) (fun _ _=>rfl) rfl rfl rfl ?_
      refine aa (sy x) (fun _ _=>rfl) rfl rfl rfl ?_
      refine⟨(r,j-(l.live+TR.one x),m+l.size+1),⟨by simp only;omega,g0,by simp only;omega,g2⟩,by simp only[TR.size];omega,⟨rfl,aE (e3 g1),aE e2,trivial⟩,(by repeat' (first|exact trivial|exact rfl|refine And.intro ?_ ?_)),(by repeat' (first|exact trivial|exact rfl|refine And.intro ?_ ?_)),(by repeat' (first|exact trivial|exact rfl|refine And.intro ?_ ?_))⟩
end Go.Proofs.E
namespace Go.Proofs.E
abbrev Du (n:Int):List D:=[.v (.int .u8 n)]
theorem lw (x:Int)(h:0≤x)(h':x<4294967296):IntKind.u32.wrap x=x:=by
 simp only[IntKind.wrap,IntKind.signed,IntKind.bits];simp;omega
theorem nw (x:Int)(h:-2147483648≤x)(h':x<0):IntKind.u32.wrap x=x+4294967296:=by
 simp only[IntKind.wrap,IntKind.signed,IntKind.bits];simp;omega
theorem lv (x:Int):IntKind.u8.wrap x=x % 256:=by
 simp only[IntKind.wrap,IntKind.signed,IntKind.bits];simp
theorem A6:∀k:Fin 32,orI .u8 192 (k.val:Int)=192+k.val:=by decide
theorem A5:∀k:Fin 16,orI .u8 224 (k.val:Int)=224+k.val:=by decide
theorem A4:∀k:Fin 8,orI .u8 240 (k.val:Int)=240+k.val:=by decide
theorem A7:∀k:Fin 64,orI .u8 128 (k.val:Int)=128+k.val:=by decide
theorem Bl:∀k:Fin 256,mW .u8 (k.val:Int) 63=((k.val % 64:Nat):Int):=by decide+kernel
theorem si (r:Int)(k:Nat)(h0:0≤r)(hk:k<32):ii .i32 r ((k:Nat):Int)=r/2^k:=by
 unfold ii
 have e:min ((k:Nat):Int).toNat IntKind.i32.bits=k:=by
  show min ((k:Nat):Int).toNat 32=k
  simp;omega
 rw[e,Int.fdiv_eq_ediv_of_nonneg _ (Int.pow_nonneg (by decide))]
theorem z4 (b:Int)(m:Nat)(r:Int)(k:Nat)(hor:∀j:Fin m,orI .u8 b (j.val:Int)=b+j.val)(h0:0≤r)(hr:r≤2147483647)(hk:k<32)(hm:m≤256)(h:r/2^k<m):orI .u8 b (IntKind.u8.wrap (ii .i32 r ((k:Nat):Int)))=b+r/2^k:=by
 have h1:0≤r/2^k:=Int.ediv_nonneg h0 (Int.pow_nonneg (by decide))
 rw[si r k h0 hk,lv,Int.emod_eq_of_lt h1 (by omega)]
 have:=hor ⟨(r/2^k).toNat,by omega⟩
 simp only at this
 rw[Int.toNat_of_nonneg h1]at this
 exact this
theorem yW (r:Int)(h0:0≤r):orI .u8 128 (mW .u8 (IntKind.u8.wrap r) 63)=128+r % 64:=by
 have h1:=Bl ⟨(r % 256).toNat,by omega⟩
 simp only at h1
 rw[Int.toNat_of_nonneg (by omega)]at h1
 rw[lv,h1]
 have h2:=A7 ⟨(r % 256).toNat % 64,by omega⟩
 simp only at h2
 rw[h2];omega
theorem yV (r:Int)(k:Nat)(h0:0≤r)(hr:r≤2147483647)(hk:k<32):orI .u8 128 (mW .u8 (IntKind.u8.wrap (ii .i32 r ((k:Nat):Int))) 63)=128+r/2^k % 64:=by
 have h1:0≤r/2^k:=Int.ediv_nonneg h0 (Int.pow_nonneg (by decide))
 have h2:r/2^k≤r:=Int.ediv_le_self _ h0
 rw[si r k h0 hk,yW _ h1]
abbrev iy (xs:List Int):Ent:=.arrT 5 1 (xs.map Du)
theorem ei (xs ys:List Int):Ent.arrT 5 1 (xs.map Du++ys.map Du)=iy (xs++ys):=by rw[iy,List.map_append]
theorem ru {xs:List Int}{n:Nat}(h:xs.length=n):(xs.map Du).length=n:=by rw[List.length_map];exact h
theorem wN (n:Nat)(xs:List Int)(r:Int)(hr0:-2147483648≤r)(hr1:r≤2147483647)(hn:xs.length=n)(hl:n≤900000000)(hna:¬(0≤r∧r≤127)):
 Ct tab Tryz.prog 262 [.arr 1000 1 n,cv' r] [(1000,iy xs)] (fun q σ'=>q=.arr 1000 1 (n+(Lib.encodeRuneZ r).length)∧σ'=[(1000,iy (xs++Lib.encodeRuneZ r))]):=by
 have hu:IntKind.u32.wrap r=if r<0 then r+4294967296 else r:=by
  split
  ·exact nw r hr0 (by assumption)
  ·exact lw r (by omega) (by omega)
 have a2:0≤r→orI .u8 128 (mW .u8 (IntKind.u8.wrap r) 63)=128+r % 64:=yW r
 have a6:0≤r→orI .u8 128 (mW .u8 (IntKind.u8.wrap (ii .i32 r 6)) 63)=128+r/64 % 64:=fun h=>yV r 6 h hr1 (by decide)
 have a12:0≤r→orI .u8 128 (mW .u8 (IntKind.u8.wrap (ii .i32 r 12)) 63)=128+r/4096 % 64:=fun h=>yV r 12 h hr1 (by decide)
 have three:((2048≤r∧r<55296)∨(57343<r∧r≤65535))→orI .u8 224 (IntKind.u8.wrap (ii .i32 r 12))=224+r/4096:=fun h=>z4 224 16 r 12 A5 (by omega) hr1 (by decide) (by decide) (by omega)
 have bad:r<0∨(55296≤r∧r≤57343)∨1114111<r→Lib.encodeRuneZ r=[239,191,189]:=Lib.encodeRuneZ_bad
 refine ab Tryz.f262 Tryz.func262 rfl rfl fun w H B g0=>?_
 refine Spl.of (fun h=>?_) (fun h=>?_)
 ·have h:=of_decide_eq_true h
  rw[hu]at h
  have hr:128≤r∧r≤2047:=by split at h<;>omega
  have e:=Lib.encodeRuneZ_two hr.1 hr.2
  have a1:orI .u8 192 (IntKind.u8.wrap (ii .i32 r 6))=192+r/64:=z4 192 32 r 6 A6 (by omega) hr1 (by decide) (by decide) (by omega)
  have a2:=a2 (by omega)
  (repeat (first|refine Spl.t rfl ?_|refine Spl.f rfl ?_))
  refine Req.of (by decide) ?_
  (refine iP rfl rfl rfl rfl rfl rfl rfl rfl (ru hn) (show n+2≤1000000000 by omega) ?_)
  (refine br [(1000,iy (xs++Lib.encodeRuneZ r))] (Wk.cons ?_ (Wk.nil _)) rfl ⟨?_,rfl⟩)
  ·rw[e];show some (Ent.arrT _ 1 (xs.map Du++[Du _,Du _]))=_;rw[a1,a2];exact congrArg some (ei xs [_,_])
  ·rw[e];rfl
 ·have h:=of_decide_eq_false h
  rw[hu]at h
  refine Spl.of (fun h2=>?_) (fun h2=>?_)
  ·have h2o:=h2
   have h2:=of_decide_eq_true h2
   rw[hu]at h2
   (repeat (first|refine Spl.t rfl ?_|refine Spl.f rfl ?_))
   refine Spl.t h2o ?_
   have hr:(2048≤r∧r<55296)∨(57343<r∧r≤65535):=by split at h<;>split at h2<;>omega
   (have e:=Lib.encodeRuneZ_three hr;have a1:=three hr;have a2:=a2 (by omega);have a6:=a6 (by omega);(repeat (first|refine Spl.t rfl ?_|refine Spl.f rfl ?_));refine Req.of (by decide) ?_;refine Req.of (by decide) ?_;(refine iP rfl rfl rfl rfl rfl rfl rfl rfl (ru hn) (show n+3≤1000000000 by omega) ?_);(refine br [(1000,iy (xs++Lib.encodeRuneZ r))] (Wk.cons ?_ (Wk.nil _)) rfl ⟨?_,rfl⟩);(rw[e];show some (Ent.arrT _ 1 (xs.map Du++[Du _,Du _,Du _]))=_;rw[a1,a2,a6];exact congrArg some (ei xs [_,_,_]));(rw[e];rfl))
  ·have h2:=of_decide_eq_false h2
   rw[hu]at h2
   refine Spl.of (fun h3=>?_) (fun h3=>?_)
   ·have h3:=of_decide_eq_true h3
    rw[hu]at h3
    (repeat (first|refine Spl.t rfl ?_|refine Spl.f rfl ?_))
    refine Spl.of (fun h4=>?_) (fun h4=>?_)
    ·have h4:=of_decide_eq_true h4
     rw[hu]at h4
     have hr:(2048≤r∧r<55296)∨(57343<r∧r≤65535):=by split at h<;>split at h2<;>split at h3<;>split at h4<;>omega
     (have e:=Lib.encodeRuneZ_three hr;have a1:=three hr;have a2:=a2 (by omega);have a6:=a6 (by omega);(repeat (first|refine Spl.t rfl ?_|refine Spl.f rfl ?_));refine Req.of (by decide) ?_;refine Req.of (by decide) ?_;(refine iP rfl rfl rfl rfl rfl rfl rfl rfl (ru hn) (show n+3≤1000000000 by omega) ?_);(refine br [(1000,iy (xs++Lib.encodeRuneZ r))] (Wk.cons ?_ (Wk.nil _)) rfl ⟨?_,rfl⟩);(rw[e];show some (Ent.arrT _ 1 (xs.map Du++[Du _,Du _,Du _]))=_;rw[a1,a2,a6];exact congrArg some (ei xs [_,_,_]));(rw[e];rfl))
    ·have h4:=of_decide_eq_false h4
     rw[hu]at h4
     refine Spl.of (fun h5=>?_) (fun h5=>?_)
     ·have h5:=of_decide_eq_true h5
      rw[hu]at h5
      (repeat (first|refine Spl.t rfl ?_|refine Spl.f rfl ?_))
      refine Spl.of (fun h6=>?_) (fun h6=>?_)
      ·have h6:=of_decide_eq_true h6
       rw[hu]at h6
       have hr:65536≤r∧r≤1114111:=by split at h5<;>split at h6<;>omega
       have e:=Lib.encodeRuneZ_four hr.1 hr.2
       have a1:orI .u8 240 (IntKind.u8.wrap (ii .i32 r 18))=240+r/262144:=z4 240 8 r 18 A4 (by omega) hr1 (by decide) (by decide) (by omega)
       have a2:=a2 (by omega)
       have a6:=a6 (by omega)
       have a12:=a12 (by omega)
       (repeat (first|refine Spl.t rfl ?_|refine Spl.f rfl ?_))
       refine Req.of (by decide) ?_
       refine Req.of (by decide) ?_
       refine Req.of (by decide) ?_
       (refine iP rfl rfl rfl rfl rfl rfl rfl rfl (ru hn) (show n+4≤1000000000 by omega) ?_)
       (refine br [(1000,iy (xs++Lib.encodeRuneZ r))] (Wk.cons ?_ (Wk.nil _)) rfl ⟨?_,rfl⟩)
       ·rw[e];show some (Ent.arrT _ 1 (xs.map Du++[Du _,Du _,Du _,Du _]))=_;rw[a1,a2,a6,a12];exact congrArg some (ei xs [_,_,_,_])
       ·rw[e];rfl
      ·have h6:=of_decide_eq_false h6
       rw[hu]at h6
       (have e:=bad (by omega);(repeat (first|refine Spl.t rfl ?_|refine Spl.f rfl ?_));(refine iP rfl rfl rfl rfl rfl rfl rfl rfl (ru hn) (show n+3≤1000000000 by omega) ?_);(refine br [(1000,iy (xs++Lib.encodeRuneZ r))] (Wk.cons ?_ (Wk.nil _)) rfl ⟨?_,rfl⟩);(rw[e];show some (Ent.arrT _ 1 (xs.map Du++[Du _,Du _,Du _]))=_;exact congrArg some (ei xs [_,_,_]));(rw[e];rfl))
     ·have h5:=of_decide_eq_false h5
      rw[hu]at h5
      exfalso;split at h5<;>split at h4<;>omega
   ·have h3:=of_decide_eq_false h3
    rw[hu]at h3
    (repeat (first|refine Spl.t rfl ?_|refine Spl.f rfl ?_))
    have hs:55296≤r∧r≤57343:=by split at h2<;>split at h3<;>omega
    refine Spl.f (decide_eq_false (by rw[hu];split<;>omega)) ?_
    (have e:=bad (by omega);(repeat (first|refine Spl.t rfl ?_|refine Spl.f rfl ?_));(refine iP rfl rfl rfl rfl rfl rfl rfl rfl (ru hn) (show n+3≤1000000000 by omega) ?_);(refine br [(1000,iy (xs++Lib.encodeRuneZ r))] (Wk.cons ?_ (Wk.nil _)) rfl ⟨?_,rfl⟩);(rw[e];show some (Ent.arrT _ 1 (xs.map Du++[Du _,Du _,Du _]))=_;exact congrArg some (ei xs [_,_,_]));(rw[e];rfl))
theorem qm (n:Nat)(xs:List Int)(r:Int)(hr0:-2147483648≤r)(hr1:r≤2147483647)(hn:xs.length=n)(hl:n≤900000000):
 Ct tab Tryz.prog 233 [.arr 1000 1 n,cv' r] [(1000,iy xs)] (fun q σ'=>q=.arr 1000 1 (n+(Lib.encodeRuneZ r).length)∧σ'=[(1000,iy (xs++Lib.encodeRuneZ r))]):=by
 refine ab Tryz.f233 Tryz.func233 rfl rfl fun w H B g0=>?_
 refine Spl.of (fun h=>?_) (fun h=>?_)
 ·have h:=of_decide_eq_true h
  have hr:0≤r∧r≤127:=by
   by_cases h2:r<0
   ·rw[nw r hr0 h2]at h;omega
   ·rw[lw r (by omega) (by omega)]at h;omega
  have e:=Lib.encodeRuneZ_one hr.1 hr.2
  have a1:IntKind.u8.wrap r=r:=by rw[lv,Int.emod_eq_of_lt hr.1 (by omega)]
  (repeat (first|refine Spl.t rfl ?_|refine Spl.f rfl ?_))
  (refine iP rfl rfl rfl rfl rfl rfl rfl rfl (ru hn) (show n+1≤1000000000 by omega) ?_)
  (refine br [(1000,iy (xs++Lib.encodeRuneZ r))] (Wk.cons ?_ (Wk.nil _)) rfl ⟨?_,rfl⟩)
  ·rw[e];show some (Ent.arrT _ 1 (xs.map Du++[Du _]))=_;rw[a1];exact congrArg some (ei xs [_])
  ·rw[e];rfl
 ·have h:=of_decide_eq_false h
  have hr:¬(0≤r∧r≤127):=fun h2=>by rw[lw r (by omega) (by omega)]at h;omega
  (repeat (first|refine Spl.t rfl ?_|refine Spl.f rfl ?_))
  refine OpJ.callD [1000] (wN n xs r hr0 hr1 hn hl hr) (fun _ _=>rfl) rfl rfl (Wk.cons rfl (Wk.nil _)) ?_
  rintro q σ' ⟨rfl,rfl⟩
  refine⟨rfl,?_⟩
  exact br [(1000,iy (xs++Lib.encodeRuneZ r))] (Wk.cons rfl (Wk.nil _)) rfl ⟨rfl,rfl⟩
abbrev yH:Sg:=[(3,.cellsT 319 [.d (.v (.pointer none)),.d (.v (.slice none 0 0))])]
abbrev Bk:Sg:=[(3,.cells [.box 3 0,.d (.v (.slice none 0 0))])]
abbrev nr (xs:List Int):Sg:=[(3,.cells [.box 3 0,.arr 1000 1 xs.length]),(1000,iy xs)]
theorem yD:Ct tab Tryz.prog 232 [.box 3 0] yH (fun q σ'=>q=.tup []∧σ'=Bk):=by
 refine ab Tryz.f232 Tryz.func232 rfl rfl fun w H B g0=>?_
 refine bq (ne rfl rfl rfl rfl rfl) rfl ?_
 (repeat (first|refine Spl.t rfl ?_|refine Spl.f rfl ?_))
 refine bq (r3 rfl rfl rfl rfl rfl (show(2:Nat)≠0 by decide) (show 0<2 by decide)) rfl ?_
 refine bq (r4 rfl rfl rfl rfl rfl rfl) rfl ?_
 refine bq (o5 rfl rfl rfl rfl rfl (by show liesAt Tryz.prog Tryz.prog.depth 319 (2/Tryz.prog.cellsOf 319) 0 319 1=true;kernel_rfl)) rfl ?_
 refine OpJ.shift (uD 3 rfl) (fF ?_)
 exact br Bk (Wk.cons rfl (Wk.nil _)) rfl ⟨rfl,rfl⟩
theorem yC (xs:List Int):Ct tab Tryz.prog 232 [.box 3 0] (nr xs) (fun q σ'=>q=.tup []∧σ'=nr xs):=by
 refine ab Tryz.f232 Tryz.func232 rfl rfl fun w H B g0=>?_
 (repeat (first|refine Spl.t rfl ?_|refine Spl.f rfl ?_))
 refine bq (w9 rfl rfl rfl rfl) rfl ?_
 (repeat (first|refine Spl.t rfl ?_|refine Spl.f rfl ?_))
 exact br (nr xs) (Wk.cons rfl (Wk.cons rfl (Wk.nil _))) rfl ⟨rfl,rfl⟩
end Go.Proofs.E
namespace Go.Proofs.E
theorem wl (r:Int)(n:Nat)(hn:n≤900000000):AV.tup [iv (Lib.encodeRuneZ r).length,.d (.v .nilIface)]=AV.tup [iv (IntKind.i64.wrap (((n+(Lib.encodeRuneZ r).length:Nat):Int)-(n:Int))),.d (.v .nilIface)]:=by
 have h:=Lib.encodeRuneZ_length r
 rw[am _ (by omega) (by omega),show((n+(Lib.encodeRuneZ r).length:Nat):Int)-(n:Int)=((Lib.encodeRuneZ r).length:Int)by omega]
theorem xV (r:Int)(hr0:-2147483648≤r)(hr1:r≤2147483647):Ct tab Tryz.prog 192 [.box 3 0,cv' r] yH (fun q σ'=>q=.tup [iv (Lib.encodeRuneZ r).length,.d (.v .nilIface)]∧σ'=nr (Lib.encodeRuneZ r)):=by
 refine aU Tryz.f192 Tryz.func192 rfl rfl fun w H B g0=>?_
 (try refine WJ.cut ?_)
 (first|refine Sq.go ?_|refine ah (Sq.go ?_)|skip)
 (try refine WJ.cut ?_)
 refine OpJ.call yD (fun _ _=>rfl) rfl rfl (Wk.cons rfl (Wk.nil _)) ?_
 rintro q σ' ⟨rfl,rfl⟩
 refine⟨rfl,?_⟩
 (first|refine Sq.go ?_|refine ah (Sq.go ?_)|skip)
 (try refine WJ.cut ?_)
 (first|refine Sq.go ?_|refine ah (Sq.go ?_)|skip)
 (try refine WJ.cut ?_)
 refine OpJ.shift (rX 1000 18 1 5 rfl rfl) ?_
 refine OpJ.callD [1000] (qm 0 [] r hr0 hr1 rfl (by decide)) (fun _ _=>rfl) rfl rfl (Wk.cons rfl (Wk.nil _)) ?_
 rintro q σ' ⟨rfl,rfl⟩
 refine⟨rfl,?_⟩
 (first|refine Sq.go ?_|refine ah (Sq.go ?_)|skip)
 (try refine ay _ _ _ _ ?_)
 refine br (nr (Lib.encodeRuneZ r)) (Wk.cons ?_ (Wk.cons rfl (Wk.nil _))) rfl ⟨?_,rfl⟩
 ·rw[Nat.zero_add];rfl
 ·have e:=wl r 0 (by decide)
  rw[Nat.zero_add]at e ⊢
  rw[e];rfl
theorem xU (xs:List Int)(r:Int)(hr0:-2147483648≤r)(hr1:r≤2147483647)(hl:xs.length≤900000000):Ct tab Tryz.prog 192 [.box 3 0,cv' r] (nr xs) (fun q σ'=>q=.tup [iv (Lib.encodeRuneZ r).length,.d (.v .nilIface)]∧σ'=nr (xs++Lib.encodeRuneZ r)):=by
 refine aU Tryz.f192 Tryz.func192 rfl rfl fun w H B g0=>?_
 (try refine WJ.cut ?_)
 (first|refine Sq.go ?_|refine ah (Sq.go ?_)|skip)
 (try refine WJ.cut ?_)
 refine OpJ.call (yC xs) (fun _ _=>rfl) rfl rfl (Wk.cons rfl (Wk.cons rfl (Wk.nil _))) ?_
 rintro q σ' ⟨rfl,rfl⟩
 refine⟨rfl,?_⟩
 (first|refine Sq.go ?_|refine ah (Sq.go ?_)|skip)
 (try refine WJ.cut ?_)
 (first|refine Sq.go ?_|refine ah (Sq.go ?_)|skip)
 (try refine WJ.cut ?_)
 refine OpJ.callD [1000] (qm xs.length xs r hr0 hr1 rfl hl) (fun _ _=>rfl) rfl rfl (Wk.cons rfl (Wk.nil _)) ?_
 rintro q σ' ⟨rfl,rfl⟩
 refine⟨rfl,?_⟩
 (first|refine Sq.go ?_|refine ah (Sq.go ?_)|skip)
 (try refine ay _ _ _ _ ?_)
 refine br (nr (xs++Lib.encodeRuneZ r)) (Wk.cons ?_ (Wk.cons rfl (Wk.nil _))) rfl ⟨?_,rfl⟩
 ·rw[List.length_append];rfl
 ·rw[wl r xs.length hl];rfl
def byt (xs:List Int):List UInt8:=xs.map fun n=>UInt8.ofNat n.toNat
theorem mS:∀xs:List Int,cW (xs.map Du)=some xs
 |[]=>rfl
 |x::xs=>by rw[List.map_cons,cW,mS xs]
theorem zH:Ct tab Tryz.prog 193 [.box 3 0] yH (fun q σ'=>q=sv []∧σ'=[]):=by
 refine ab Tryz.f193 Tryz.func193 rfl rfl fun w H B g0=>?_
 refine aB 0 10 [] rfl (by decide+kernel) ?_
 refine QuietP.of (ne rfl rfl rfl rfl rfl) ?_
 refine QuietP.of (nc rfl) ?_
 refine QuietP.of (ne rfl rfl rfl rfl rfl) ?_
 (repeat' (refine And.intro ?_ ?_))
 refine bq (nb rfl rfl) rfl ?_
 exact FinP.open rfl ⟨rfl,rfl⟩
theorem zG (xs:List Int)(h0:0<xs.length)(hl:xs.length≤900000000)(hb:∀k,k∈xs→0≤k∧k<256):Ct tab Tryz.prog 193 [.box 3 0] (nr xs) (fun q σ'=>q=sv (byt xs)∧σ'=[]):=by
 refine ab Tryz.f193 Tryz.func193 rfl rfl fun w H B g0=>?_
 refine aB 0 10 [] rfl (by decide+kernel) ?_
 refine QuietP.of (qB rfl h0) ?_
 (repeat' (refine And.intro ?_ ?_))
 refine qA rfl rfl rfl (mS xs) hb (by rw[List.length_map]) h0 (by omega) rfl rfl rfl ?_
 exact FinP.open rfl ⟨rfl,rfl⟩
def dF:Nat→List EL→List (Nat×EL)
 |_,[]=>[]
 |n,e::r=>(n,e)::dF (n+1) r
theorem pS:∀(A B:List EL)(n:Nat),dF n (A++B)=dF n A++dF (n+A.length) B
 |[],B,n=>by simp[dF]
 |e::A,B,n=>by
  rw[List.cons_append,dF,pS A B (n+1),dF,List.length_cons,List.cons_append,show n+1+A.length=n+(A.length+1)by omega]
theorem jr:∀(A:List EL)(n i:Nat),(dF n A)[i]?=(A[i]?).map fun e=>(n+i,e)
 |[],_,i=>by simp[dF]
 |e::A,n,0=>by simp[dF]
 |e::A,n,i+1=>by rw[dF,List.getElem?_cons_succ,List.getElem?_cons_succ,jr A (n+1) i];congr 1;funext e;congr 1;omega
abbrev itA (x:Nat×EL):List AV:=[iv x.1,elv x.2]
theorem dG {pin:List Nat}{ρ:Res}{s:ρ.S}{r:AV}(h:r.open=true):dZ pin r [(0,.res ρ s)]:=by
 refine⟨fun j hj=>(by rw[fC h]at hj;cases hj),fun i e hi j hj=>?_⟩
 rw[ae]at hi
 by_cases h:i=0
 ·rw[if_pos h]at hi;cases hi;cases hj
 ·rw[if_neg h]at hi;cases hi
theorem ov:∀(t:TR)(n:Nat),n+t.size≤900000→∀(ρ:Res),ρ.P=Tryz.prog→ρ.Λ=tab→∀s,Gv.Can ρ s ((dF n t.els).map itA)→
 Ct tab Tryz.prog 231 [.d t.d,iv n,.d (.v ρ.fv)] [(0,.res ρ s)] (fun q σ'=>∃b s',Feeds ρ s ((dF n t.els).map itA) b s'∧q=bv b∧σ'=[(0,.res ρ s')])
 |.nil,n,hn,ρ,hP,hΛ,s,hc=>by
  refine ab Tryz.f231 Tryz.func231 rfl rfl fun w H B g0=>?_
  (repeat (first|refine Spl.t rfl ?_|refine Spl.f rfl ?_))
  exact FinP.of [(0,.res ρ s)] (Wk.cons rfl (Wk.nil _)) (dG rfl) ⟨true,s,.nil _,rfl,rfl⟩
 |.node l x r,n,hn,ρ,hP,hΛ,s,hc=>by
  simp only[TR.size]at hn
  have hl:=TR.els_len l
  rw[TR.els,pS,dF,hl,List.map_append,List.map_cons]at hc ⊢
  have hc1:=Gv.Can.app hc
  have ihl:=ov l n (by omega) ρ hP hΛ s hc1.1
  have e1:IntKind.i64.wrap ((n:Int)+(l.size:Int))=((n+l.size:Nat):Int):=by rw[am _ (by omega) (by omega)];omega
  have e2:IntKind.i64.wrap (IntKind.i64.wrap ((n:Int)+(l.size:Int))+1)=((n+l.size+1:Nat):Int):=by rw[e1,am _ (by omega) (by omega)];omega
  refine aU Tryz.f231 Tryz.func231 rfl rfl fun w H B g0=>?_
  (try refine WJ.cut ?_)
  (first|refine Sq.go ?_|refine ah (Sq.go ?_)|skip)
  (try refine WJ.cut ?_)
  (repeat (first|refine Spl.t rfl ?_|refine Spl.f rfl ?_))
  (first|refine Sq.go ?_|refine ah (Sq.go ?_)|skip)
  (try refine WJ.cut ?_)
  refine aa (cE l) (fun _ _=>rfl) rfl rfl rfl ?_
  (first|refine Sq.go ?_|refine ah (Sq.go ?_)|skip)
  (try refine WJ.cut ?_)
  refine OpJ.call ihl (fun _ _=>rfl) rfl rfl (Wk.cons rfl (Wk.nil _)) ?_
  rintro qv σ' ⟨b,s1,hf,rfl,rfl⟩
  refine⟨rfl,?_⟩
  cases b with
  |false=>
   (repeat (first|refine Spl.t rfl ?_|refine Spl.f rfl ?_))
   (first|refine Sq.go ?_|refine ah (Sq.go ?_)|skip)
   (try refine ay _ _ _ _ ?_)
   exact FinP.of [(0,.res ρ s1)] (Wk.cons rfl (Wk.nil _)) (dG rfl) ⟨false,s1,hf.cut _,rfl,rfl⟩
  |true=>
   have hc2:=hc1.2 s1 hf
   (repeat (first|refine Spl.t rfl ?_|refine Spl.f rfl ?_))
   refine kR (j:=0) (ρ:=ρ) (st:=s1) (avs:=itA (n+l.size,x)) hP hΛ rfl rfl (by show _=some [iv ((n+l.size:Nat):Int),elv x];rw[←e1];rfl) rfl rfl rfl hc2.1 fun b s2 hs=>?_
   cases b with
   |false=>
    (repeat (first|refine Spl.t rfl ?_|refine Spl.f rfl ?_))
    (first|refine Sq.go ?_|refine ah (Sq.go ?_)|skip)
    (try refine ay _ _ _ _ ?_)
    exact FinP.of [(0,.res ρ s2)] (Wk.cons rfl (Wk.nil _)) (dG rfl) ⟨false,s2,hf.app (.stop hs),rfl,rfl⟩
   |true=>
    have ihr:=ov r (n+l.size+1) (by omega) ρ hP hΛ s2 (hc2.2 s2 hs)
    (repeat (first|refine Spl.t rfl ?_|refine Spl.f rfl ?_))
    refine OpJ.call ihr (fun _ _=>rfl) rfl (by rw[←e2];rfl) (Wk.cons rfl (Wk.nil _)) ?_
    rintro qv σ' ⟨b,s3,hf3,rfl,rfl⟩
    refine⟨rfl,?_⟩
    (repeat (first|refine Spl.t rfl ?_|refine Spl.f rfl ?_))
    (first|refine Sq.go ?_|refine ah (Sq.go ?_)|skip)
    (try refine ay _ _ _ _ ?_)
    exact FinP.of [(0,.res ρ s3)] (Wk.cons rfl (Wk.nil _)) (dG rfl) ⟨b,s3,hf.app (.go hs hf3),rfl,rfl⟩
abbrev yU (t:TR):D:=.ptr [t.d]
abbrev AW (t:TR):AV:=.d (.fn 230 [yU t])
theorem xY {γ:Ids}{H:HF}{f:FuncId}{cs:List AV}{ds:List D}{u:Value}(h:eN cs=some ds)(r:Rep γ H (.fnp f cs) u):Rep γ H (.d (.fn f ds)) u:=by
 cases r with
 |fnp _ _ us hl hr=>
  obtain⟨h1,h2⟩:=eB h
  refine .d _ _ (.fn f ds us (by rw[hl,h1]) fun j x v hx hv=>?_)
  obtain⟨a,ha,hd⟩:=h2 j x hx
  exact ed hd (hr j a v ha hv)
theorem wV (t:TR):Cv 191 [tv t] (AW t):=by
 refine ab Tryz.f191 Tryz.func191 rfl rfl fun w H B g0=>?_
 exact FinP.pub 1 rfl rfl (FinP.view (fun _ _ _=>xY rfl) (FinP.open rfl rfl))
theorem nz (t:TR)(hs:t.size≤800000):xy tab Tryz.prog 230 [.d (yU t)] ((dF 0 t.els).map itA):=by
 intro ρ hP hΛ s hc
 have hwk:=ov t 0 (by omega) ρ hP hΛ s hc
 refine ab Tryz.f230 Tryz.func230 rfl rfl fun w H B g0=>?_
 (repeat (first|refine Spl.t rfl ?_|refine Spl.f rfl ?_))
 refine OpJ.call hwk (fun _ _=>rfl) rfl rfl (Wk.cons rfl (Wk.nil _)) ?_
 rintro qv σ' ⟨b,s',hf,rfl,rfl⟩
 refine⟨rfl,?_⟩
 exact FinP.of [(0,.res ρ s')] (Wk.cons rfl (Wk.nil _)) (dG rfl) ⟨b,s',hf,rfl⟩
def dz:List EL→List Int
 |[]=>[]
 |e::r=>if e.dead=true then dz r else Lib.encodeRuneZ e.ch++dz r
theorem ph:∀(A B:List EL),dz (A++B)=dz A++dz B
 |[],_=>rfl
 |e::A,B=>by
  rw[List.cons_append,dz,dz,ph A B]
  split
  ·rfl
  ·rw[List.append_assoc]
theorem lA:∀A:List EL,(dz A).length≤4*A.length
 |[]=>Nat.le_refl _
 |e::A=>by
  rw[dz,List.length_cons]
  have:=lA A
  split
  ·omega
  ·have h:=Lib.encodeRuneZ_length e.ch
   rw[List.length_append];omega
theorem jS:∀(A:List EL)(k:Int),k∈dz A→0≤k∧k<256
 |[],k,h=>by simp[dz]at h
 |e::A,k,h=>by
  rw[dz]at h
  split at h
  ·exact jS A k h
  ·rcases List.mem_append.1 h with h|h
   ·exact Lib.encodeRuneZ_byte e.ch k h
   ·exact jS A k h
def okE (e:EL):Prop:=-2147483648≤e.ch∧e.ch≤2147483647
def BI:List Int→Sg
 |[]=>yH
 |x::xs=>nr (x::xs)
theorem rV (t:TR)(hs:t.size≤800000)(hok:∀e,e∈t.els→okE e):Cv 152 [tv t] (sv (byt (dz t.els))):=by
 have it:=nz t hs
 have hlen:=TR.els_len t
 refine aU Tryz.f152 Tryz.func152 rfl rfl fun w H B g0=>?_
 (try refine WJ.cut ?_)
 (first|refine Sq.go ?_|refine ah (Sq.go ?_)|skip)
 (try refine WJ.cut ?_)
 refine xq rfl rfl rfl rfl rfl ?_
 (first|refine Sq.go ?_|refine ah (Sq.go ?_)|skip)
 (try refine WJ.cut ?_)
 refine aa (wV t) (fun _ _=>rfl) rfl rfl rfl ?_
 refine kq itA (dF 0 t.els) (V:=List Int) BI [3,1000] (fun pre v=>v=dz (pre.map fun x=>x.2)) (fun _ _ _=>False) [] it rfl rfl (.fn _ _) rfl (fun _ _=>rfl) rfl rfl (fun _=>rfl) (by repeat' (first|exact trivial|exact rfl|refine And.intro ?_ ?_)) rfl ?_ ?_ ?_
 ·intro l pre x post v hL hI w0 H0 B0 g1
  have hpl:(pre.map fun x=>x.2)++x.2::post.map (fun x=>x.2)=t.els:=by
   have:(dF 0 t.els).map (fun x=>x.2)=t.els:=by
    have:∀(A:List EL)(n:Nat),(dF n A).map (fun x=>x.2)=A:=fun A=>by
     induction A with
     |nil=>intro n;rfl
     |cons e A ih=>intro n;rw[dF,List.map_cons,ih]
    exact this _ _
   rw[hL,List.map_append,List.map_cons]at this
   exact this
  have hx:=hok x.2 (by rw[←hpl];simp)
  have hv:v.length≤900000000:=by
   have h1:=lA (pre.map fun x=>x.2)
   have h2:=congrArg List.length hpl
   rw[List.length_append]at h2
   rw[hI];omega
  have hnext:dz ((pre++[x]).map fun x=>x.2)=v++(if x.2.dead=true then[]else Lib.encodeRuneZ x.2.ch):=by
   rw[List.map_append,ph,←hI]
   simp only[List.map_cons,List.map_nil,dz]
   split<;>simp
  have henc:=Lib.encodeRuneZ_length x.2.ch
  obtain⟨n,⟨xi,xc,xd⟩⟩:=x
  cases v with
  |nil=>
   intro w0 H0 B0 g1
   cases xd with
   |true=>
    (repeat (first|refine Spl.t rfl ?_|refine Spl.f rfl ?_))
    exact⟨[],hnext.symm,(by repeat' (first|exact trivial|exact rfl|refine And.intro ?_ ?_))⟩
   |false=>
    (repeat (first|refine Spl.t rfl ?_|refine Spl.f rfl ?_))
    refine OpJ.call (xV xc hx.1 hx.2) (fun _ _=>rfl) rfl rfl (Wk.cons rfl (Wk.nil _)) ?_
    rintro q σ' ⟨rfl,rfl⟩
    refine⟨rfl,?_⟩
    (repeat (first|refine Spl.t rfl ?_|refine Spl.f rfl ?_))
    obtain⟨y,ys,e⟩:∃y ys,Lib.encodeRuneZ xc=y::ys:=by
     cases h:Lib.encodeRuneZ xc with
     |nil=>rw[h]at henc;simp at henc
     |cons y ys=>exact⟨y,ys,rfl⟩
    refine⟨y::ys,?_,?_⟩
    ·exact e.symm.trans hnext.symm
    ·rw[e];exact(by repeat' (first|exact trivial|exact rfl|refine And.intro ?_ ?_))
  |cons y ys=>
   intro w0 H0 B0 g1
   cases xd with
   |true=>
    (repeat (first|refine Spl.t rfl ?_|refine Spl.f rfl ?_))
    exact⟨y::ys,(hnext.trans (List.append_nil _)).symm,(by repeat' (first|exact trivial|exact rfl|refine And.intro ?_ ?_))⟩
   |false=>
    (repeat (first|refine Spl.t rfl ?_|refine Spl.f rfl ?_))
    refine OpJ.call (xU (y::ys) xc hx.1 hx.2 hv) (fun _ _=>rfl) rfl rfl (Wk.cons rfl (Wk.cons rfl (Wk.nil _))) ?_
    rintro q σ' ⟨rfl,rfl⟩
    refine⟨rfl,?_⟩
    (repeat (first|refine Spl.t rfl ?_|refine Spl.f rfl ?_))
    exact⟨y::(ys++Lib.encodeRuneZ xc),hnext.symm,(by repeat' (first|exact trivial|exact rfl|refine And.intro ?_ ?_))⟩
 ·intro v hI
  have hall:(dF 0 t.els).map (fun x=>x.2)=t.els:=by
   have:∀(A:List EL)(n:Nat),(dF n A).map (fun x=>x.2)=A:=fun A=>by
    induction A with
    |nil=>intro n;rfl
    |cons e A ih=>intro n;rw[dF,List.map_cons,ih]
   exact this _ _
  rw[hall]at hI
  rw[←hI]
  cases v with
  |nil=>
   (first|refine Sq.go ?_|refine ah (Sq.go ?_)|skip)
   (try refine ay _ _ _ _ ?_)
   refine OpJ.call zH (fun _ _=>rfl) rfl rfl (Wk.cons rfl (Wk.nil _)) ?_
   rintro q σ' ⟨rfl,rfl⟩
   refine⟨rfl,?_⟩
   exact FinP.open rfl rfl
  |cons y ys=>
   have h1:=lA t.els
   have h2:=jS t.els
   rw[←hI]at h1 h2
   (first|refine Sq.go ?_|refine ah (Sq.go ?_)|skip)
   (try refine ay _ _ _ _ ?_)
   refine OpJ.call (zG (y::ys) (by simp) (by omega) h2) (fun _ _=>rfl) rfl rfl (Wk.cons rfl (Wk.cons rfl (Wk.nil _))) ?_
   rintro q σ' ⟨rfl,rfl⟩
   refine⟨rfl,?_⟩
   exact FinP.open rfl rfl
 ·intro c p v h
  exact h.elim
end Go.Proofs.E
namespace Go.Proofs.E
def BO:ByteArray:=⟨#[97,98,99]⟩
def trs:Nat→TR
 |0=>.nil
 |1=>iF .nil 0 ⟨⟨1,1⟩,97,false⟩
 |2=>iF (iF .nil 0 ⟨⟨1,1⟩,97,false⟩) 1 ⟨⟨2,1⟩,98,true⟩
 |_=>iF (iF (iF .nil 0 ⟨⟨1,1⟩,97,false⟩) 1 ⟨⟨2,1⟩,98,true⟩) 2 ⟨⟨3,1⟩,99,false⟩
theorem xI:Cv 273 [] (bv true):=by
 have i0:=jO (trs 0) 0 ⟨⟨1,1⟩,97,false⟩ (by decide)
 have i1:=jO (trs 1) 1 ⟨⟨2,1⟩,98,true⟩ (by decide)
 have i2:=jO (trs 2) 2 ⟨⟨3,1⟩,99,false⟩ (by decide)
 have se:=qs (trs 3) 1 (by decide)
 have ra:=rY (trs 3) 2 (by decide) (by decide) (by decide)
 have tx:=rV (trs 3) (by decide) (by unfold okE;decide+kernel)
 refine aU Tryz.f273 Tryz.func273 rfl rfl fun w H B g0=>?_
 (try refine WJ.cut ?_)
 (first|refine Sq.go ?_|refine ah (Sq.go ?_)|skip)
 (try refine WJ.cut ?_)
 (first|refine Sq.go ?_|refine ah (Sq.go ?_)|skip)
 (try refine WJ.cut ?_)
 refine w7 rfl rfl rfl rfl ?_
 refine ba (V:=Nat) (fun _=>[]) (fun v=>[(1,.cells [.d (trs v).d]),(6,.obj (.stringIter BO v))]) [1,6] (fun v=>3-v) (fun v=>v≤3) 0 (by decide) (by repeat' (first|exact trivial|exact rfl|refine And.intro ?_ ?_)) (by repeat' (first|exact trivial|exact rfl|refine And.intro ?_ ?_)) ?_
 intro v hv
 obtain rfl|rfl|rfl|rfl:v=0∨v=1∨v=2∨v=3:=by omega
 ·refine o4 rfl rfl (by decide) rfl ?_
  (repeat (first|refine Spl.t rfl ?_|refine Spl.f rfl ?_))
  refine aa i0 (fun _ _=>rfl) rfl rfl rfl ?_
  (repeat (first|refine Spl.t rfl ?_|refine Spl.f rfl ?_))
  exact⟨1,by decide,by decide,(by repeat' (first|exact trivial|exact rfl|refine And.intro ?_ ?_)),(by repeat' (first|exact trivial|exact rfl|refine And.intro ?_ ?_)),(by repeat' (first|exact trivial|exact rfl|refine And.intro ?_ ?_)),(by repeat' (first|exact trivial|exact rfl|refine And.intro ?_ ?_))⟩
 ·refine o4 rfl rfl (by decide) rfl ?_
  (repeat (first|refine Spl.t rfl ?_|refine Spl.f rfl ?_))
  refine aa i1 (fun _ _=>rfl) rfl rfl rfl ?_
  (repeat (first|refine Spl.t rfl ?_|refine Spl.f rfl ?_))
  exact⟨2,by decide,by decide,(by repeat' (first|exact trivial|exact rfl|refine And.intro ?_ ?_)),(by repeat' (first|exact trivial|exact rfl|refine And.intro ?_ ?_)),(by repeat' (first|exact trivial|exact rfl|refine And.intro ?_ ?_)),(by repeat' (first|exact trivial|exact rfl|refine And.intro ?_ ?_))⟩
 ·refine o4 rfl rfl (by decide) rfl ?_
  (repeat (first|refine Spl.t rfl ?_|refine Spl.f rfl ?_))
  refine aa i2 (fun _ _=>rfl) rfl rfl rfl ?_
  (repeat (first|refine Spl.t rfl ?_|refine Spl.f rfl ?_))
  exact⟨3,by decide,by decide,(by repeat' (first|exact trivial|exact rfl|refine And.intro ?_ ?_)),(by repeat' (first|exact trivial|exact rfl|refine And.intro ?_ ?_)),(by repeat' (first|exact trivial|exact rfl|refine And.intro ?_ ?_)),(by repeat' (first|exact trivial|exact rfl|refine And.intro ?_ ?_))⟩
 ·refine yP rfl rfl (by decide) rfl ?_
  (repeat (first|refine Spl.t rfl ?_|refine Spl.f rfl ?_))
  (first|refine Sq.go ?_|refine ah (Sq.go ?_)|skip)
  (try refine WJ.cut ?_)
  refine aa se (fun _ _=>rfl) rfl rfl rfl ?_
  (first|refine Sq.go ?_|refine ah (Sq.go ?_)|skip)
  (try refine WJ.cut ?_)
  refine aa lu (fun _ _=>rfl) rfl rfl rfl ?_
  (repeat (first|refine Spl.t rfl ?_|refine Spl.f rfl ?_))
  refine aa ra (fun _ _=>rfl) rfl rfl rfl ?_
  (repeat (first|refine Spl.t rfl ?_|refine Spl.f rfl ?_))
  refine aa tx (fun _ _=>rfl) rfl rfl rfl ?_
  (repeat (first|refine Spl.t rfl ?_|refine Spl.f rfl ?_))
  (first|refine Sq.go ?_|refine ah (Sq.go ?_)|skip)
  (try refine ay _ _ _ _ ?_)
  refine FinP.open rfl (congrArg bv ?_)
  decide+kernel
end Go.Proofs.E
namespace Go.Proofs.E
end Go.Proofs.E
namespace Go.Proofs.E
namespace TR
def okb:TR→Prop
 |.nil=>True
 |.node l _ r=>l.okb∧r.okb∧r.wt≤3*l.wt∧l.wt≤3*r.wt
theorem wt_pos (t:TR):0<t.wt:=by unfold wt;omega
theorem oq:TR.nil.wt=1:=rfl
theorem bP (l:TR)(e:EL)(r:TR):(TR.node l e r).wt=l.wt+r.wt:=by unfold wt;rw[size];omega
theorem tX {l r:TR}(e:EL)(hl:l.okb)(hr:r.okb)(h:r.wt=3*l.wt+1):(turnL l e r).okb:=by
 cases r with
 |nil=>rw[oq]at h;have:=l.wt_pos;omega
 |node rl re rr=>
  obtain⟨h1,h2,h3,h4⟩:=hr
  rw[bP]at h
  have p0:=l.wt_pos
  simp only[turnL]
  split
  ·next hb=>
   have hb:=cA hb
   exact⟨⟨hl,h1,by omega,by omega⟩,h2,by rw[bP];omega,by rw[bP];omega⟩
  ·next hb=>
   have hb:=cQ hb
   cases rl with
   |nil=>rw[oq]at hb;have:=rr.wt_pos;omega
   |node ml me mr=>
    obtain⟨m1,m2,m3,m4⟩:=h1
    rw[bP]at h3 h4 hb h
    exact⟨⟨hl,m1,by omega,by omega⟩,⟨m2,h2,by omega,by omega⟩,by rw[bP,bP];omega,by rw[bP,bP];omega⟩
theorem tW {l r:TR}(e:EL)(hl:l.okb)(hr:r.okb)(h:l.wt=3*r.wt+1):(turnR l e r).okb:=by
 cases l with
 |nil=>rw[oq]at h;have:=r.wt_pos;omega
 |node ll le lr=>
  obtain⟨h1,h2,h3,h4⟩:=hl
  rw[bP]at h
  have p0:=r.wt_pos
  simp only[turnR]
  split
  ·next hb=>
   have hb:=cA hb
   exact⟨h1,⟨h2,hr,by omega,by omega⟩,by rw[bP];omega,by rw[bP];omega⟩
  ·next hb=>
   have hb:=cQ hb
   cases lr with
   |nil=>rw[oq]at hb;have:=ll.wt_pos;omega
   |node ml me mr=>
    obtain⟨m1,m2,m3,m4⟩:=h2
    rw[bP]at h3 h4 hb h
    exact⟨⟨h1,m1,by omega,by omega⟩,⟨m2,hr,by omega,by omega⟩,by rw[bP,bP];omega,by rw[bP,bP];omega⟩
theorem sz {l r:TR}(e:EL)(hl:l.okb)(hr:r.okb)(h1:r.wt≤3*l.wt+1)(h2:l.wt≤3*r.wt+1):(bal l e r).okb:=by
 unfold bal
 split
 ·next hb=>exact tX e hl hr (by have:=cA hb;omega)
 ·next hb=>
  split
  ·next hb2=>exact tW e hl hr (by have:=cA hb2;omega)
  ·next hb2=>exact⟨hl,hr,cQ hb,cQ hb2⟩
theorem okb_ins:∀(i:Nat)(e:EL)(t:TR),i≤t.size→t.okb→(ins i e t).okb
 |i,e,.nil,_,_=>⟨trivial,trivial,by decide,by decide⟩
 |i,e,.node l x r,hi,h=>by
  obtain⟨h1,h2,h3,h4⟩:=h
  simp only[size]at hi
  simp only[ins]
  split
  ·next hb=>
   have hb:=Nat.le_of_ble_eq_true hb
   have hz:=iU i e l hb
   have hw:(ins i e l).wt=l.wt+1:=by unfold wt;omega
   exact sz x (okb_ins i e l hb h1) h2 (by omega) (by omega)
  ·next hb=>
   have hb:=n9 hb
   have hz:=iU (i-l.size-1) e r (by omega)
   have hw:(ins (i-l.size-1) e r).wt=r.wt+1:=by unfold wt;omega
   exact sz x h1 (okb_ins _ e r (by omega) h2) (by omega) (by omega)
theorem okb_set:∀(i:Nat)(e:EL)(t:TR),i<t.size→t.okb→(set i e t).okb
 |i,e,.nil,hi,_=>by simp[size]at hi
 |i,e,.node l x r,hi,h=>by
  obtain⟨h1,h2,h3,h4⟩:=h
  simp only[size]at hi
  simp only[set]
  split
  ·next hb=>
   have hb:=cA hb
   have hz:=iT i e l hb
   have hw:(set i e l).wt=l.wt:=by unfold wt;omega
   exact⟨okb_set i e l hb h1,h2,by omega,by omega⟩
  ·next hb=>
   have hb:=cQ hb
   split
   ·next hb2=>
    have hb2:=cA hb2
    have hz:=iT (i-l.size-1) e r (by omega)
    have hw:(set (i-l.size-1) e r).wt=r.wt:=by unfold wt;omega
    exact⟨h1,okb_set _ e r (by omega) h2,by omega,by omega⟩
   ·exact⟨h1,h2,h3,h4⟩
end TR
theorem vG {t:TR}(i:Int)(e:EL)(h:t.okb):(iF t i e).okb:=by
 unfold iF
 split
 ·next hi=>exact TR.okb_ins _ _ _ (by omega) h
 ·exact h
theorem vF {t:TR}(i:Int)(e:EL)(h:t.okb):(pr t i e).okb:=by
 unfold pr
 split
 ·next hi=>
  obtain⟨h1,h2⟩:=mq hi
  exact TR.okb_set _ _ _ (by omega) h
 ·exact h
end Go.Proofs.E
namespace Go.Proofs.E
attribute [local irreducible] elems
structure SS where
 t:TR
 p:PT
 n:Int
abbrev stv (s:SS):AV:=.agg [.d s.t.d,.d s.p.d,iv s.n]
structure isS (s:SS)(l:List OP):Prop where
 dn:Dn l
 els:s.t.els=aj l
 bal:s.t.okb
 mp:∃M,isM s.p s.n M∧(∀a,aZ a M=cR l a)∧M.length=(bc l).length
theorem isS.size {s:SS}{l:List OP}(h:isS s l):s.t.size=(bc l).length:=by rw[←TR.els_len,h.els,fP h.dn]
theorem isS.small {s:SS}{l:List OP}(h:isS s l):s.t.size≤4096:=by rw[h.size];exact h.dn.is.len
theorem o9 {s:SS}{l:List OP}(h:isS s l)(a:ID):Cv 284 [lX s.p s.n,idv a] (Ab (cR l a)):=by
 obtain⟨M,h1,h2,_⟩:=h.mp
 rw[←h2]
 exact yS h1 a
theorem wv {l:List OP}{a:ID}:(cR l a).isSome=(au 0 a l).isSome:=by unfold cR;rw[Option.isSome_map]
theorem zl {s:SS}{l:List OP}(h:isS s l)(a:ID):Cv 269 [stv s,idv a] (bv (au 0 a l).isSome):=by
 have hg:=o9 h a
 rw[←wv]
 cases he:cR l a with
 |none=>
  rw[he]at hg
  refine ab Tryz.f269 Tryz.func269 rfl rfl fun w H B g0=>?_
  refine aa hg (fun _ _=>rfl) rfl rfl rfl ?_
  (repeat (first|refine Spl.t rfl ?_|refine Spl.f rfl ?_))
  exact FinP.open rfl rfl
 |some e=>
  rw[he]at hg
  refine ab Tryz.f269 Tryz.func269 rfl rfl fun w H B g0=>?_
  refine aa hg (fun _ _=>rfl) rfl rfl rfl ?_
  (repeat (first|refine Spl.t rfl ?_|refine Spl.f rfl ?_))
  exact FinP.open rfl rfl
theorem vI {l:List OP}(h:Dn l):∀e,e∈aj l→okE e:=fun e he=>by
 obtain⟨o,ho,rfl⟩:=(gO h).1 he
 obtain⟨h1,h2⟩:=aW.1 ho
 rcases(bC (h.is.ok o h1)).2 with⟨h3,_⟩|⟨_,_,h4,h5⟩
 ·omega
 ·unfold okE elO;simp only;omega
theorem r8 {s:SS}{l:List OP}(h:isS s l)(a:ID):Cv 245 [stv s,idv a] (.tup [iv (ax a (aj l)),bv (decide (0≤ax a (aj l)))]):=by
 have hs:=h.small
 have it:=nz s.t (by omega)
 rw[h.els]at it
 refine aU Tryz.f245 Tryz.func245 rfl rfl fun w H B g0=>?_
 (try refine WJ.cut ?_)
 (first|refine Sq.go ?_|refine ah (Sq.go ?_)|skip)
 (try refine WJ.cut ?_)
 refine aa (zl h a) (fun _ _=>rfl) rfl rfl rfl ?_
 refine Spl.of (fun h1=>?_) (fun h1=>?_)
 ·have h1:(au 0 a l).isSome=false:=by simpa using h1
  have h2:=gT h.dn a
  rw[h1]at h2
  have h3:ax a (aj l)=-1:=by
   have:=of_decide_eq_false h2
   have:=j5 a (aj l)
   omega
  (repeat (first|refine Spl.t rfl ?_|refine Spl.f rfl ?_))
  refine .out (by simp) ?_
  refine FinP.open rfl ?_
  rw[h3];rfl
 ·have h1:(au 0 a l).isSome=true:=by simpa using h1
  have h2:=gT h.dn a
  rw[h1]at h2
  have h3:=of_decide_eq_true h2
  (repeat (first|refine Spl.t rfl ?_|refine Spl.f rfl ?_))
  (first|refine Sq.go ?_|refine ah (Sq.go ?_)|skip)
  (try refine WJ.cut ?_)
  refine aa (wV s.t) (fun _ _=>rfl) rfl rfl rfl ?_
  refine kq itA (dF 0 (aj l)) (V:=Int×Bool) (fun v=>[(4,.cells [iv v.1]),(5,.cells [bv v.2])]) [4,5] (fun pre v=>v=(0,false)∧∀x,x∈pre→x.2.id≠a) (fun c _ v=>c=.ret∧v=(ax a (aj l),true)) (0,false) it rfl rfl (.fn _ _) rfl (fun _ _=>rfl) rfl rfl (fun _=>rfl) (by repeat' (first|exact trivial|exact rfl|refine And.intro ?_ ?_)) ⟨rfl,by simp⟩ ?_ ?_ ?_
  ·intro l0 pre x post v hL hI w0 H0 B0 g1
   obtain⟨rfl,hI⟩:=hI
   intro w0 H0 B0 g1
   have hget:(dF 0 (aj l))[pre.length]?=some x:=by rw[hL];simp
   rw[jr]at hget
   obtain⟨e,he⟩:∃e,(aj l)[pre.length]?=some e:=by
    cases hz:(aj l)[pre.length]? with
    |none=>rw[hz]at hget;cases hget
    |some e=>exact⟨e,rfl⟩
   rw[he]at hget
   have hxe:x=(pre.length,e):=by simpa using hget.symm
   have hpre:∀j y,j<pre.length→(aj l)[j]?=some y→y.id≠a:=fun j y hj hy=>by
    have h5:(dF 0 (aj l))[j]?=some (j,y):=by rw[jr,hy];simp
    rw[hL,List.getElem?_append_left hj]at h5
    exact hI _ (List.mem_of_getElem? h5)
   subst hxe
   refine bq (O.eqT 3 rfl rfl rfl rfl rfl mE p6 (eqI e.id a)) rfl ?_
   refine Spl.of (fun h4=>?_) (fun h4=>?_)
   ·have h4:e.id=a:=of_decide_eq_true h4
    have hp:=j6 he h4 hpre
    (repeat (first|refine Spl.t rfl ?_|refine Spl.f rfl ?_))
    exact⟨(ax a (aj l),true),⟨rfl,rfl⟩,⟨congrArg (fun z:Int=>some (Ent.cells [iv z])) hp.symm,(by repeat' (first|exact trivial|exact rfl|refine And.intro ?_ ?_))⟩⟩
   ·have h4:¬e.id=a:=of_decide_eq_false h4
    (repeat (first|refine Spl.t rfl ?_|refine Spl.f rfl ?_))
    exact⟨(0,false),⟨rfl,fun y hy=>by rcases List.mem_append.1 hy with hy|hy;exact hI y hy;rw[List.mem_singleton.1 hy];exact h4⟩,(by repeat' (first|exact trivial|exact rfl|refine And.intro ?_ ?_))⟩
  ·rintro v ⟨rfl,hI⟩
   exfalso
   obtain⟨e,h4,h5,_⟩:=iD h3
   have h6:(dF 0 (aj l))[(ax a (aj l)).toNat]?=some (0+(ax a (aj l)).toNat,e):=by rw[jr,h4];rfl
   exact hI _ (List.mem_of_getElem? h6) h5
  ·rintro c p v ⟨rfl,rfl⟩
   refine .out (by simp) ?_
   refine FinP.open rfl ?_
   rw[decide_eq_true h3];rfl
theorem lm {s:SS}{l:List OP}(h:isS s l)(k:Nat):atT s.t (k:Int)=(aj l)[k]?:=by
 unfold atT;rw[if_pos (by omega),Int.toNat_natCast,h.els]
theorem kF (f:OP→EL)(hf:∀x,(f x).id=x.i)(o:OP):∀L:List OP,0≤ax o.a (L.map f)→gi o L=(ax o.a (L.map f)).toNat+1+fR o (L.drop ((ax o.a (L.map f)).toNat+1))
 |[],h=>by simp[ax]at h
 |x::r,h=>by
  rw[List.map_cons,ax]at h ⊢
  rw[gi]
  by_cases e:x.i=o.a
  ·rw[if_pos e,if_pos (by rw[hf];exact e)];simp;omega
  ·rw[if_neg e,if_neg (by rw[hf];exact e)]
   rw[if_neg (by rw[hf];exact e)]at h
   by_cases e2:ax o.a (r.map f)<0
   ·rw[if_pos e2]at h;omega
   ·rw[if_neg e2,kF f hf o r (by omega),show(ax o.a (r.map f)+1).toNat=(ax o.a (r.map f)).toNat+1 by omega,List.drop_succ_cons];omega
theorem rg {l:List OP}(h:Dn l):ax ⟨0,0⟩ (aj l)=-1:=gx fun e he e2=>by
 obtain⟨o,ho,rfl⟩:=(gO h).1 he
 have:=h.is.tk.is.c0 o ho
 have e3:o.i=⟨0,0⟩:=e2
 rw[e3]at this;simp at this
theorem x5 {s:SS}{l:List OP}(h:isS s l){o:OP}(hw:aq l o=0)(hk:o.k=0):Cv 288 [stv s,opv o] (iv (cn l o)):=by
 have hs:=h.small
 have hle:=gS h.dn hw hk
 have hlen:=fP h.dn
 have hll:=h.dn.is.len
 obtain⟨hc,h1⟩:=bQ hw
 obtain⟨hnew,ha⟩:au 0 o.i l=none∧(o.a=⟨0,0⟩∨(au 0 o.a l).isSome=true):=by
  rcases h1 with⟨h1,_⟩|⟨_,h2,h3,_⟩
  ·omega
  ·exact⟨h2,h3⟩
 have start:(ax o.a (aj l)<0→o.a=⟨0,0⟩∧0+fR o (cc (bc l))=cn l o)∧(0≤ax o.a (aj l)→(ax o.a (aj l)).toNat+1+fR o ((cc (bc l)).drop ((ax o.a (aj l)).toNat+1))=cn l o):=by
  refine⟨fun hlt=>?_,fun hge=>?_⟩
  ·have:o.a=⟨0,0⟩:=by
    rcases ha with ha|ha
    ·exact ha
    ·rw[←gT h.dn]at ha
     have:=of_decide_eq_true ha;omega
   refine⟨this,?_⟩
   unfold cn tS;rw[if_pos this,Nat.zero_add]
  ·have:o.a≠⟨0,0⟩:=fun e=>by rw[e,rg h.dn]at hge;omega
   unfold cn tS;rw[if_neg this]
   exact(kF (elO l) (fun _=>rfl) o _ hge).symm
 have hlp:=j4 o.a (aj l)
 have hgp:=j5 o.a (aj l)
 have stopN:∀k:Nat,k≤(aj l).length→k+fR o ((cc (bc l)).drop k)=cn l o→(aj l)[k]?=none→(k:Int)=cn l o:=fun k hkl hpos hr=>by
  have hkeq:k=(aj l).length:=by have:=List.getElem?_eq_none_iff.1 hr;omega
  rw[←hpos,List.drop_eq_nil_of_le (by rw[h.dn.is.tk.is.len];omega)];rfl
 have stepN:∀(k:Nat)(e:EL),k+fR o ((cc (bc l)).drop k)=cn l o→(aj l)[k]?=some e→(aX e.id o.i=true→(k:Int)=cn l o)∧(aX e.id o.i=false→k+1≤(aj l).length∧k+1+fR o ((cc (bc l)).drop (k+1))=cn l o):=fun k e hpos hr=>by
  obtain⟨x,hx,hxe⟩:∃x,(cc (bc l))[k]?=some x∧elO l x=e:=by
   unfold aj at hr
   rw[List.getElem?_map]at hr
   cases hz:(cc (bc l))[k]? with
   |none=>rw[hz]at hr;cases hr
   |some x=>rw[hz]at hr;exact⟨x,rfl,Option.some.inj hr⟩
  have hxi:e.id=x.i:=by rw[←hxe];rfl
  have hd:(cc (bc l)).drop k=x::(cc (bc l)).drop (k+1):=by
   have hlt:=(List.getElem?_eq_some_iff.1 hx).1
   rw[List.drop_eq_getElem_cons hlt];congr 1;exact(List.getElem?_eq_some_iff.1 hx).2
  have hklt:k<(aj l).length:=(List.getElem?_eq_some_iff.1 hr).1
  have hxl:=aW.1 ((h.dn.is.tk.is.mem x).1 (List.mem_of_getElem? hx))
  have hne:x.i≠o.i:=cI hnew x hxl.1 hxl.2
  rw[hd,fR]at hpos
  refine⟨fun h5=>?_,fun h5=>?_⟩
  ·have hn:¬aX o.i x.i=true:=fun h6=>bV _ (cp h6 (hxi▸h5))
   rw[if_neg hn]at hpos;omega
  ·have hn:aX o.i x.i=true:=jm (by rw[←hxi,h5];decide) hne
   rw[if_pos hn]at hpos
   exact⟨by omega,by omega⟩
 refine aU Tryz.f288 Tryz.func288 rfl rfl fun w H B g0=>?_
 (try refine WJ.cut ?_)
 (first|refine Sq.go ?_|refine ah (Sq.go ?_)|skip)
 (try refine WJ.cut ?_)
 (first|refine Sq.go ?_|refine ah (Sq.go ?_)|skip)
 (try refine WJ.cut ?_)
 refine aa (r8 h o.a) (fun _ _=>rfl) rfl rfl rfl ?_
 (first|refine Sq.go ?_|refine ah (Sq.go ?_)|skip)
 (try refine WJ.cut ?_)
 refine Spl.of (fun h1=>?_) (fun h1=>?_)
 ·have h1:=of_decide_eq_true h1
  have hK0:=start.2 h1
  have e1:IntKind.i64.wrap (ax o.a (aj l)+1)=(((ax o.a (aj l)).toNat+1:Nat):Int):=by rw[am _ (by omega) (by omega)];omega
  (repeat (first|refine Spl.t rfl ?_|refine Spl.f rfl ?_))
  (first|refine Sq.go ?_|refine ah (Sq.go ?_)|skip)
  (try refine ay _ _ _ _ ?_)
  refine ba (V:=Nat) (fun k=>[(5,iv k)]) (fun _=>[]) [] (fun k=>(aj l).length+1-k) (fun k=>k≤(aj l).length∧k+fR o ((cc (bc l)).drop k)=cn l o) ((ax o.a (aj l)).toNat+1) ⟨by omega,hK0⟩ ⟨aE e1,trivial⟩ (by repeat' (first|exact trivial|exact rfl|refine And.intro ?_ ?_)) ?_
  (rintro k ⟨hkl,hpos⟩;obtain⟨r,hr⟩:∃r,atT s.t ((k:Nat):Int)=r:=⟨_,rfl⟩;have hat:=yT s.t (k:Int) (by omega);rw[hr]at hat;rw[lm h]at hr;rcases r with _|e;(have hfin:=stopN k hkl hpos hr;refine aa hat (fun _ _=>rfl) rfl rfl rfl ?_;(repeat (first|refine Spl.t rfl ?_|refine Spl.f rfl ?_));exact FinP.open rfl (congrArg iv hfin));(obtain⟨s1,s2⟩:=stepN k e hpos hr;refine aa hat (fun _ _=>rfl) rfl rfl rfl ?_;(repeat (first|refine Spl.t rfl ?_|refine Spl.f rfl ?_));refine aa (o8 e.id o.i) (fun _ _=>rfl) rfl rfl rfl ?_;(repeat (first|refine Spl.t rfl ?_|refine Spl.f rfl ?_));refine Spl.of (fun h5=>?_) (fun h5=>?_);(have hfin:=s1 h5;(repeat (first|refine Spl.t rfl ?_|refine Spl.f rfl ?_));exact FinP.open rfl (congrArg iv hfin));(obtain⟨s3,s4⟩:=s2 h5;(repeat (first|refine Spl.t rfl ?_|refine Spl.f rfl ?_));exact⟨k+1,⟨s3,s4⟩,by omega,⟨aE (am _ (by omega) (by omega)),trivial⟩,(by repeat' (first|exact trivial|exact rfl|refine And.intro ?_ ?_)),(by repeat' (first|exact trivial|exact rfl|refine And.intro ?_ ?_)),(by repeat' (first|exact trivial|exact rfl|refine And.intro ?_ ?_))⟩)))
 ·have h1:=of_decide_eq_false h1
  have hK0:=(start.1 (by omega)).2
  (repeat (first|refine Spl.t rfl ?_|refine Spl.f rfl ?_))
  (first|refine Sq.go ?_|refine ah (Sq.go ?_)|skip)
  (try refine ay _ _ _ _ ?_)
  refine ba (V:=Nat) (fun k=>[(5,iv k)]) (fun _=>[]) [] (fun k=>(aj l).length+1-k) (fun k=>k≤(aj l).length∧k+fR o ((cc (bc l)).drop k)=cn l o) 0 ⟨by omega,hK0⟩ (by repeat' (first|exact trivial|exact rfl|refine And.intro ?_ ?_)) (by repeat' (first|exact trivial|exact rfl|refine And.intro ?_ ?_)) ?_
  (rintro k ⟨hkl,hpos⟩;obtain⟨r,hr⟩:∃r,atT s.t ((k:Nat):Int)=r:=⟨_,rfl⟩;have hat:=yT s.t (k:Int) (by omega);rw[hr]at hat;rw[lm h]at hr;rcases r with _|e;(have hfin:=stopN k hkl hpos hr;refine aa hat (fun _ _=>rfl) rfl rfl rfl ?_;(repeat (first|refine Spl.t rfl ?_|refine Spl.f rfl ?_));exact FinP.open rfl (congrArg iv hfin));(obtain⟨s1,s2⟩:=stepN k e hpos hr;refine aa hat (fun _ _=>rfl) rfl rfl rfl ?_;(repeat (first|refine Spl.t rfl ?_|refine Spl.f rfl ?_));refine aa (o8 e.id o.i) (fun _ _=>rfl) rfl rfl rfl ?_;(repeat (first|refine Spl.t rfl ?_|refine Spl.f rfl ?_));refine Spl.of (fun h5=>?_) (fun h5=>?_);(have hfin:=s1 h5;(repeat (first|refine Spl.t rfl ?_|refine Spl.f rfl ?_));exact FinP.open rfl (congrArg iv hfin));(obtain⟨s3,s4⟩:=s2 h5;(repeat (first|refine Spl.t rfl ?_|refine Spl.f rfl ?_));exact⟨k+1,⟨s3,s4⟩,by omega,⟨aE (am _ (by omega) (by omega)),trivial⟩,(by repeat' (first|exact trivial|exact rfl|refine And.intro ?_ ?_)),(by repeat' (first|exact trivial|exact rfl|refine And.intro ?_ ?_)),(by repeat' (first|exact trivial|exact rfl|refine And.intro ?_ ?_))⟩)))
end Go.Proofs.E
namespace Go.Proofs.E
attribute [local irreducible] elems
theorem Be {x o:OP}(h1:x.k=o.k)(h2:x.i=o.i)(h3:x.a=o.a)(h4:x.ch=o.ch):x=o:=by
 obtain⟨a,b,c,d⟩:=x
 obtain⟨a',b',c',d'⟩:=o
 simp_all
theorem pb {s:SS}{l:List OP}(h:isS s l){o:OP}(hc:aC o=0)(hk:o.k=0):Cv 287 [stv s,opv o] (iv (aq l o)):=by
 have hg:=o9 h o.i
 have hw:aq l o=if au 0 o.i l=some o then 4 else if (au 0 o.i l).isSome=true then 5 else if o.a≠⟨0,0⟩∧(au 0 o.a l).isSome=false then 6 else if 4096≤(bc l).length then 7 else 0:=by
  unfold aq;rw[if_neg (fun e=>e hc),if_neg (by omega)]
 have hn:bu o.a=decide (o.a=⟨0,0⟩):=by
  unfold bu
  obtain⟨a,b⟩:=o.a
  exact decide_eq_decide.2 ⟨fun h=>by simp only at h;rw[h.1,h.2],fun h=>by cases h;simp⟩
 cases hf:au 0 o.i l with
 |some x=>
  obtain⟨x1,x2,x3⟩:=be hf
  have he:cR l o.i=some ⟨x.a,x.ch,b8 l o.i⟩:=by unfold cR;rw[hf];rfl
  rw[he]at hg
  rw[hf]at hw
  refine ab Tryz.f287 Tryz.func287 rfl rfl fun w H B g0=>?_
  refine aa hg (fun _ _=>rfl) rfl rfl rfl ?_
  (repeat (first|refine Spl.t rfl ?_|refine Spl.f rfl ?_))
  refine bq (O.eqT 3 rfl rfl rfl rfl rfl mE p6 (eqI x.a o.a)) rfl ?_
  refine Spl.of (fun h1=>?_) (fun h1=>?_)
  ·have h1:=of_decide_eq_true h1
   (repeat (first|refine Spl.t rfl ?_|refine Spl.f rfl ?_))
   refine Spl.of (fun h2=>?_) (fun h2=>?_)
   ·have h2:=of_decide_eq_true h2
    (repeat (first|refine Spl.t rfl ?_|refine Spl.f rfl ?_))
    refine FinP.open rfl (congrArg iv ?_)
    rw[hw,if_pos (by rw[Be (x2.trans hk.symm) x3 h1 h2])]
   ·have h2:=of_decide_eq_false h2
    (repeat (first|refine Spl.t rfl ?_|refine Spl.f rfl ?_))
    refine FinP.open rfl (congrArg iv ?_)
    rw[hw,if_neg (fun e=>h2 (by rw[Option.some.inj e]))];simp
  ·have h1:=of_decide_eq_false h1
   (repeat (first|refine Spl.t rfl ?_|refine Spl.f rfl ?_))
   refine FinP.open rfl (congrArg iv ?_)
   rw[hw,if_neg (fun e=>h1 (by rw[Option.some.inj e]))];simp
 |none=>
  have he:cR l o.i=none:=by unfold cR;rw[hf];rfl
  rw[he]at hg
  rw[hf,if_neg (by simp),if_neg (by simp)]at hw
  have hlen:((s.t.size:Nat):Int)=((bc l).length:Int):=by rw[h.size]
  refine ab Tryz.f287 Tryz.func287 rfl rfl fun w H B g0=>?_
  refine aa hg (fun _ _=>rfl) rfl rfl rfl ?_
  (repeat (first|refine Spl.t rfl ?_|refine Spl.f rfl ?_))
  refine aa (nf o.a) (fun _ _=>rfl) rfl rfl rfl ?_
  (repeat (first|refine Spl.t rfl ?_|refine Spl.f rfl ?_))
  rw[hn]
  refine Spl.of (fun h3=>?_) (fun h3=>?_)
  ·have h3:o.a≠⟨0,0⟩:=by simpa using h3
   (repeat (first|refine Spl.t rfl ?_|refine Spl.f rfl ?_))
   refine aa (zl h o.a) (fun _ _=>rfl) rfl rfl rfl ?_
   (repeat (first|refine Spl.t rfl ?_|refine Spl.f rfl ?_))
   refine Spl.of (fun h4=>?_) (fun h4=>?_)
   ·have h4:(au 0 o.a l).isSome=false:=by simpa using h4
    (repeat (first|refine Spl.t rfl ?_|refine Spl.f rfl ?_))
    refine FinP.open rfl (congrArg iv ?_)
    rw[hw,if_pos ⟨h3,h4⟩]
   ·have h4:(au 0 o.a l).isSome=true:=by simpa using h4
    have hno:¬(o.a≠⟨0,0⟩∧(au 0 o.a l).isSome=false):=fun e=>by rw[h4]at e;cases e.2
    ((repeat (first|refine Spl.t rfl ?_|refine Spl.f rfl ?_));refine aa (iN s.t) (fun _ _=>rfl) rfl rfl rfl ?_;refine Spl.of (fun h5=>?_) (fun h5=>?_);(have h5:=of_decide_eq_true h5;(repeat (first|refine Spl.t rfl ?_|refine Spl.f rfl ?_));refine FinP.open rfl (congrArg iv ?_);rw[hw,if_neg hno,if_pos (by omega)]);(have h5:=of_decide_eq_false h5;(repeat (first|refine Spl.t rfl ?_|refine Spl.f rfl ?_));refine FinP.open rfl (congrArg iv ?_);rw[hw,if_neg hno,if_neg (by omega)]))
  ·have h3:o.a=⟨0,0⟩:=by simpa using h3
   have hno:¬(o.a≠⟨0,0⟩∧(au 0 o.a l).isSome=false):=fun e=>e.1 h3
   ((repeat (first|refine Spl.t rfl ?_|refine Spl.f rfl ?_));refine aa (iN s.t) (fun _ _=>rfl) rfl rfl rfl ?_;refine Spl.of (fun h5=>?_) (fun h5=>?_);(have h5:=of_decide_eq_true h5;(repeat (first|refine Spl.t rfl ?_|refine Spl.f rfl ?_));refine FinP.open rfl (congrArg iv ?_);rw[hw,if_neg hno,if_pos (by omega)]);(have h5:=of_decide_eq_false h5;(repeat (first|refine Spl.t rfl ?_|refine Spl.f rfl ?_));refine FinP.open rfl (congrArg iv ?_);rw[hw,if_neg hno,if_neg (by omega)]))
def Aa (s:SS)(l:List OP)(o:OP):SS:=⟨iF s.t (cn l o) ⟨o.i,o.ch,false⟩,PT.put 8 (bL o.i) ⟨o.a,o.ch,false⟩ s.p,t6 s.p s.n o.i⟩
theorem yg {s:SS}{l:List OP}(h:isS s l){o:OP}(hw:aq l o=0)(hk:o.k=0):isS (Aa s l o) (l++[o]):=by
 have hle:=gS h.dn hw hk
 obtain⟨hc,h1⟩:=bQ hw
 have hnew:au 0 o.i l=none:=by
  rcases h1 with⟨h1,_⟩|⟨_,h2,_⟩
  ·omega
  ·exact h2
 have hm:=(bC hc).1
 refine⟨.snoc h.dn hw,?_,vG _ _ h.bal,?_⟩
 ·have hsz:cn l o≤s.t.size:=by rw[←TR.els_len,h.els];exact hle
  show(iF s.t ((cn l o:Nat):Int) ⟨o.i,o.ch,false⟩).els=_
  rw[iF,if_pos ⟨by omega,by omega⟩,Int.toNat_natCast,TR.els_ins _ _ _ hsz,h.els,kY h.dn hw hk]
 ·obtain⟨M,m1,m2,m3⟩:=h.mp
  refine⟨fB o.i ⟨o.a,o.ch,false⟩ M,ld m1 hm _,fun a=>?_,?_⟩
  ·rw[iL m1.up,yx h.dn hw hk,m2]
  ·rw[jn m1.up,m2,show cR l o.i=none by unfold cR;rw[hnew];rfl,dk hk,List.length_append,m3];simp
theorem v6 {s:SS}{l:List OP}(h:isS s l){o:OP}(hw:aq l o=0)(hk:o.k=0):Cv 268 [stv s,opv o] (.tup [stv (Aa s l o),iv (cn l o),iv 0]):=by
 obtain⟨hc,h1⟩:=bQ hw
 have hm:=(bC hc).1
 have hwi:=pb h hc hk
 rw[hw]at hwi
 obtain⟨M,m1,m2,m3⟩:=h.mp
 have hll:=h.dn.is.len
 have hle:=gS h.dn hw hk
 have hi:=jO s.t (cn l o) ⟨o.i,o.ch,false⟩ (by have:=h.small;omega)
 have hp:=lq m1 (by omega) o.i ⟨o.a,o.ch,false⟩ hm
 refine aU Tryz.f268 Tryz.func268 rfl rfl fun w H B g0=>?_
 (try refine WJ.cut ?_)
 (first|refine Sq.go ?_|refine ah (Sq.go ?_)|skip)
 (try refine WJ.cut ?_)
 refine aa hwi (fun _ _=>rfl) rfl rfl rfl ?_
 (first|refine Sq.go ?_|refine ah (Sq.go ?_)|skip)
 (try refine WJ.cut ?_)
 (repeat (first|refine Spl.t rfl ?_|refine Spl.f rfl ?_))
 (first|refine Sq.go ?_|refine ah (Sq.go ?_)|skip)
 (try refine WJ.cut ?_)
 refine aa (x5 h hw hk) (fun _ _=>rfl) rfl rfl rfl ?_
 (first|refine Sq.go ?_|refine ah (Sq.go ?_)|skip)
 (try refine WJ.cut ?_)
 refine aa hi (fun _ _=>rfl) rfl rfl rfl ?_
 (first|refine Sq.go ?_|refine ah (Sq.go ?_)|skip)
 (try refine WJ.cut ?_)
 refine aa hp (fun _ _=>rfl) rfl rfl rfl ?_
 (first|refine Sq.go ?_|refine ah (Sq.go ?_)|skip)
 (try refine ay _ _ _ _ ?_)
 exact FinP.open rfl rfl
theorem rB {s:SS}{l:List OP}(h:isS s l){o:OP}(hc:aC o=0)(hw:aq l o≠0)(hk:o.k=0):Cv 268 [stv s,opv o] (.tup [stv s,iv (-1),iv (aq l o)]):=by
 have hwi:=pb h hc hk
 refine aU Tryz.f268 Tryz.func268 rfl rfl fun w H B g0=>?_
 (try refine WJ.cut ?_)
 (first|refine Sq.go ?_|refine ah (Sq.go ?_)|skip)
 (try refine WJ.cut ?_)
 refine aa hwi (fun _ _=>rfl) rfl rfl rfl ?_
 (first|refine Sq.go ?_|refine ah (Sq.go ?_)|skip)
 (try refine WJ.cut ?_)
 refine Spl.t (by simpa using hw) ?_
 (repeat (first|refine Spl.t rfl ?_|refine Spl.f rfl ?_))
 refine .out (by simp) ?_
 exact FinP.open rfl rfl
def jC (l:List OP)(o:OP):EN:=(cR l o.i).getD EN.zero
def Al (s:SS)(l:List OP)(o:OP):SS:=⟨pr s.t (ax o.i (aj l)) ⟨o.i,(jC l o).ch,true⟩,PT.put 8 (bL o.i) ⟨(jC l o).a,(jC l o).ch,true⟩ s.p,t6 s.p s.n o.i⟩
theorem yA {s:SS}{l:List OP}(h:isS s l){o:OP}(hw:aq l o=0)(hk:o.k=1):isS (Al s l o) (l++[o]):=by
 obtain⟨hc,h1⟩:=bQ hw
 have hm:=(bC hc).1
 obtain⟨n,ch,d1,d2,d3,d4,d5⟩:=iY h.dn hw hk
 have hde:jC l o=⟨((au 0 o.i l).map (·.a)).getD ⟨0,0⟩,ch,false⟩:=by unfold jC;rw[d3];rfl
 refine⟨.snoc h.dn hw,?_,vF _ _ h.bal,?_⟩
 ·have hlt:n<s.t.size:=by rw[←TR.els_len,h.els];exact(List.getElem?_eq_some_iff.1 d2).1
  show(pr s.t (ax o.i (aj l)) ⟨o.i,(jC l o).ch,true⟩).els=_
  rw[d1,pr,if_pos (show hasT s.t (n:Int)=true from decide_eq_true ⟨by omega,by omega⟩),Int.toNat_natCast,TR.els_set _ _ _ hlt,h.els,d4,hde]
 ·obtain⟨M,m1,m2,m3⟩:=h.mp
  refine⟨fB o.i ⟨(jC l o).a,(jC l o).ch,true⟩ M,ld m1 hm _,fun a=>?_,?_⟩
  ·rw[iL m1.up,yy hk,m2]
   by_cases e:a=o.i
   ·rw[if_pos e,if_pos e,e,d3,hde];rfl
   ·rw[if_neg e,if_neg e]
  ·rw[jn m1.up,m2,d3,eu (by omega),m3];rfl
theorem vh {s:SS}{l:List OP}(h:isS s l){o:OP}(hw:aq l o=0)(hk:o.k=1):Cv 267 [stv s,opv o] (.tup [stv (Al s l o),iv (ax o.i (aj l)),iv 0]):=by
 obtain⟨hc,h1⟩:=bQ hw
 have hm:=(bC hc).1
 obtain⟨n,ch,d1,d2,d3,d4,d5⟩:=iY h.dn hw hk
 have hg:=o9 h o.i
 have hde:jC l o=⟨((au 0 o.i l).map (·.a)).getD ⟨0,0⟩,ch,false⟩:=by unfold jC;rw[d3];rfl
 rw[d3,←hde]at hg
 obtain⟨M,m1,m2,m3⟩:=h.mp
 have hll:=h.dn.is.len
 have hi:=Bo s.t (ax o.i (aj l)) ⟨o.i,(jC l o).ch,true⟩ (by have:=h.small;omega)
 have hp:=lq m1 (by omega) o.i ⟨(jC l o).a,(jC l o).ch,true⟩ hm
 have hdd:(jC l o).dead=false:=by rw[hde]
 have hf:=r8 h o.i
 refine aU Tryz.f267 Tryz.func267 rfl rfl fun w H B g0=>?_
 (try refine WJ.cut ?_)
 (first|refine Sq.go ?_|refine ah (Sq.go ?_)|skip)
 (try refine WJ.cut ?_)
 refine aa hg (fun _ _=>rfl) rfl rfl rfl ?_
 (first|refine Sq.go ?_|refine ah (Sq.go ?_)|skip)
 (try refine WJ.cut ?_)
 (repeat (first|refine Spl.t rfl ?_|refine Spl.f rfl ?_))
 refine Spl.f hdd ?_
 (first|refine Sq.go ?_|refine ah (Sq.go ?_)|skip)
 (try refine WJ.cut ?_)
 refine aa hf (fun _ _=>rfl) rfl rfl rfl ?_
 (first|refine Sq.go ?_|refine ah (Sq.go ?_)|skip)
 (try refine WJ.cut ?_)
 (first|refine Sq.go ?_|refine ah (Sq.go ?_)|skip)
 (try refine WJ.cut ?_)
 refine aa hi (fun _ _=>rfl) rfl rfl rfl ?_
 (first|refine Sq.go ?_|refine ah (Sq.go ?_)|skip)
 (try refine WJ.cut ?_)
 refine aa hp (fun _ _=>rfl) rfl rfl rfl ?_
 (first|refine Sq.go ?_|refine ah (Sq.go ?_)|skip)
 (try refine ay _ _ _ _ ?_)
 exact FinP.open rfl rfl
theorem qV {s:SS}{l:List OP}(h:isS s l){o:OP}(hc:aC o=0)(hw:aq l o≠0)(hk:o.k=1):Cv 267 [stv s,opv o] (.tup [stv s,iv (-1),iv (aq l o)]):=by
 have hg:=o9 h o.i
 have hwe:aq l o=if (au 0 o.i l).isSome=true then(if b8 l o.i=true then 4 else 0)else 6:=by
  unfold aq;rw[if_neg (fun e=>e hc),if_pos hk]
 rw[hwe]at hw
 rw[hwe]
 cases hf:au 0 o.i l with
 |none=>
  have he:cR l o.i=none:=by unfold cR;rw[hf];rfl
  rw[he]at hg
  refine ab Tryz.f267 Tryz.func267 rfl rfl fun w H B g0=>?_
  refine aa hg (fun _ _=>rfl) rfl rfl rfl ?_
  (repeat (first|refine Spl.t rfl ?_|refine Spl.f rfl ?_))
  exact FinP.open rfl rfl
 |some x=>
  have he:cR l o.i=some ⟨x.a,x.ch,b8 l o.i⟩:=by unfold cR;rw[hf];rfl
  rw[he]at hg
  rw[hf,if_pos (show(some x).isSome=true from rfl)]at hw
  have hd:b8 l o.i=true:=by
   cases hd:b8 l o.i with
   |true=>rfl
   |false=>rw[hd]at hw;exact absurd rfl hw
  rw[if_pos (show(some x).isSome=true from rfl),if_pos hd]
  refine ab Tryz.f267 Tryz.func267 rfl rfl fun w H B g0=>?_
  refine aa hg (fun _ _=>rfl) rfl rfl rfl ?_
  (repeat (first|refine Spl.t rfl ?_|refine Spl.f rfl ?_))
  refine Spl.t hd ?_
  (repeat (first|refine Spl.t rfl ?_|refine Spl.f rfl ?_))
  exact FinP.open rfl rfl
def dJ (s:SS)(l:List OP)(o:OP):SS:=if aq l o=0 then(if o.k=1 then Al s l o else Aa s l o)else s
def ga (l:List OP)(o:OP):List OP:=if aq l o=0 then l++[o]else l
def atO (l:List OP)(o:OP):Int:=if aq l o=0 then ax o.i (aj (l++[o]))else-1
theorem f9 {s:SS}{l:List OP}(h:isS s l)(o:OP):isS (dJ s l o) (ga l o):=by
 unfold dJ ga
 split
 ·next hw=>
  split
  ·next hk=>exact yA h hw hk
  ·next hk=>
   have:o.k=0:=by rcases(bC (bQ hw).1).2 with h|h;exact absurd h.1 hk;exact h.1
   exact yg h hw this
 ·exact h
theorem jP {s:SS}{l:List OP}(h:isS s l)(o:OP):Cv 241 [stv s,opv o] (.tup [stv (dJ s l o),iv (atO l o),iv (aq l o)]):=by
 by_cases hc:aC o=0
 ·have hkk:=(bC hc).2
  have hck:=eM o
  rw[hc]at hck
  by_cases hk:o.k=1
  ·have key:Cv 267 [stv s,opv o] (.tup [stv (dJ s l o),iv (atO l o),iv (aq l o)]):=by
    unfold dJ atO
    by_cases hw:aq l o=0
    ·obtain⟨n,ch,d1,d2,d3,d4,d5⟩:=iY h.dn hw hk
     have:=vh h hw hk
     rw[if_pos hw,if_pos hk,if_pos hw,hw,d5,←d1];exact this
    ·rw[if_neg hw,if_neg hw];exact qV h hc hw hk
   refine ab Tryz.f241 Tryz.func241 rfl rfl fun w H B g0=>?_
   refine aa hck (fun _ _=>rfl) rfl rfl rfl ?_
   (repeat (first|refine Spl.t rfl ?_|refine Spl.f rfl ?_))
   refine Spl.t (by rw[hk];rfl) ?_
   refine aa key (fun _ _=>rfl) rfl rfl rfl ?_
   (repeat (first|refine Spl.t rfl ?_|refine Spl.f rfl ?_))
   exact FinP.open rfl rfl
  ·have hk0:o.k=0:=by rcases hkk with h|h;exact absurd h.1 hk;exact h.1
   have key:Cv 268 [stv s,opv o] (.tup [stv (dJ s l o),iv (atO l o),iv (aq l o)]):=by
    unfold dJ atO
    by_cases hw:aq l o=0
    ·have:=v6 h hw hk0
     rw[if_pos hw,if_neg hk,if_pos hw,hw,tT h.dn hw hk0];exact this
    ·rw[if_neg hw,if_neg hw];exact rB h hc hw hk0
   refine ab Tryz.f241 Tryz.func241 rfl rfl fun w H B g0=>?_
   refine aa hck (fun _ _=>rfl) rfl rfl rfl ?_
   (repeat (first|refine Spl.t rfl ?_|refine Spl.f rfl ?_))
   refine Spl.f (by rw[hk0];rfl) ?_
   (repeat (first|refine Spl.t rfl ?_|refine Spl.f rfl ?_))
   refine aa key (fun _ _=>rfl) rfl rfl rfl ?_
   (repeat (first|refine Spl.t rfl ?_|refine Spl.f rfl ?_))
   exact FinP.open rfl rfl
 ·have hw:aq l o=aC o:=by unfold aq;rw[if_pos hc]
  have hw0:¬aq l o=0:=by rw[hw];exact hc
  unfold dJ atO
  rw[if_neg hw0,if_neg hw0,hw]
  refine ab Tryz.f241 Tryz.func241 rfl rfl fun w H B g0=>?_
  refine aa (eM o) (fun _ _=>rfl) rfl rfl rfl ?_
  refine Spl.t (by simpa using hc) ?_
  (repeat (first|refine Spl.t rfl ?_|refine Spl.f rfl ?_))
  exact FinP.open rfl rfl
theorem lc:isS ⟨.nil,.nil,0⟩ []:=⟨.nil,rfl,trivial,[],oN,fun _=>rfl,rfl⟩
end Go.Proofs.E
namespace Go.Proofs.E
attribute [local irreducible] elems
abbrev opD (o:OP):List D:=[.v (.int .i64 o.k),.v (.int .i64 o.i.c),.v (.int .i64 o.i.s),.v (.int .i64 o.a.c),.v (.int .i64 o.a.s),.v (.int .i32 o.ch)]
def aw6:List OP:=[⟨0,⟨1,1⟩,⟨0,0⟩,97⟩,⟨0,⟨2,1⟩,⟨1,1⟩,98⟩,⟨0,⟨2,2⟩,⟨1,1⟩,99⟩]
theorem BC:∃s,isS s aw6∧∃s1 s2,isS s1 [⟨0,⟨1,1⟩,⟨0,0⟩,97⟩]∧isS s2 [⟨0,⟨1,1⟩,⟨0,0⟩,97⟩,⟨0,⟨2,1⟩,⟨1,1⟩,98⟩]∧
 Cv 241 [stv ⟨.nil,.nil,0⟩,opv ⟨0,⟨1,1⟩,⟨0,0⟩,97⟩] (.tup [stv s1,iv 0,iv 0])∧
 Cv 241 [stv s1,opv ⟨0,⟨2,1⟩,⟨1,1⟩,98⟩] (.tup [stv s2,iv 1,iv 0])∧
 Cv 241 [stv s2,opv ⟨0,⟨2,2⟩,⟨1,1⟩,99⟩] (.tup [stv s,iv 1,iv 0]):=by
 have h1:=f9 lc ⟨0,⟨1,1⟩,⟨0,0⟩,97⟩
 have a1:=jP lc ⟨0,⟨1,1⟩,⟨0,0⟩,97⟩
 rw[show ga [] ⟨0,⟨1,1⟩,⟨0,0⟩,97⟩=[⟨0,⟨1,1⟩,⟨0,0⟩,97⟩]by decide+kernel]at h1
 rw[show atO [] ⟨0,⟨1,1⟩,⟨0,0⟩,97⟩=0 by decide+kernel,show aq [] ⟨0,⟨1,1⟩,⟨0,0⟩,97⟩=0 by decide+kernel]at a1
 have h2:=f9 h1 ⟨0,⟨2,1⟩,⟨1,1⟩,98⟩
 have a2:=jP h1 ⟨0,⟨2,1⟩,⟨1,1⟩,98⟩
 rw[show ga [⟨0,⟨1,1⟩,⟨0,0⟩,97⟩] ⟨0,⟨2,1⟩,⟨1,1⟩,98⟩=[⟨0,⟨1,1⟩,⟨0,0⟩,97⟩,⟨0,⟨2,1⟩,⟨1,1⟩,98⟩]by decide+kernel]at h2
 rw[show atO [⟨0,⟨1,1⟩,⟨0,0⟩,97⟩] ⟨0,⟨2,1⟩,⟨1,1⟩,98⟩=1 by decide+kernel,show aq [⟨0,⟨1,1⟩,⟨0,0⟩,97⟩] ⟨0,⟨2,1⟩,⟨1,1⟩,98⟩=0 by decide+kernel]at a2
 have h3:=f9 h2 ⟨0,⟨2,2⟩,⟨1,1⟩,99⟩
 have a3:=jP h2 ⟨0,⟨2,2⟩,⟨1,1⟩,99⟩
 rw[show ga [⟨0,⟨1,1⟩,⟨0,0⟩,97⟩,⟨0,⟨2,1⟩,⟨1,1⟩,98⟩] ⟨0,⟨2,2⟩,⟨1,1⟩,99⟩=aw6 by decide+kernel]at h3
 rw[show atO [⟨0,⟨1,1⟩,⟨0,0⟩,97⟩,⟨0,⟨2,1⟩,⟨1,1⟩,98⟩] ⟨0,⟨2,2⟩,⟨1,1⟩,99⟩=1 by decide+kernel,show aq [⟨0,⟨1,1⟩,⟨0,0⟩,97⟩,⟨0,⟨2,1⟩,⟨1,1⟩,98⟩] ⟨0,⟨2,2⟩,⟨1,1⟩,99⟩=0 by decide+kernel]at a3
 exact⟨_,h3,_,_,h1,h2,a1,a2,a3⟩
theorem yK {s:SS}{l:List OP}(h:isS s l):Cv 152 [tv s.t] (sv (byt (dz (aj l)))):=by
 have:=rV s.t (by have:=h.small;omega) (by rw[h.els];exact vI h.dn)
 rw[h.els]at this;exact this
theorem xF:Cv 249 [] (bv true):=by
 obtain⟨s3,h3,s1,s2,h1,h2,a1,a2,a3⟩:=BC
 have tx:=yK h3
 have he:byt (dz (aj aw6))=[97,99,98]:=by decide+kernel
 rw[he]at tx
 refine aU Tryz.f249 Tryz.func249 rfl rfl fun w H B g0=>?_
 (try refine WJ.cut ?_)
 (first|refine Sq.go ?_|refine ah (Sq.go ?_)|skip)
 (try refine WJ.cut ?_)
 (first|refine Sq.go ?_|refine ah (Sq.go ?_)|skip)
 (try refine WJ.cut ?_)
 refine ba (V:=Nat) (fun v=>[(14,iv v)]) (fun v=>[(1,.cells (match v with|0=>[.d TR.nil.d,.d PT.nil.d,iv 0]|1=>[.d s1.t.d,.d s1.p.d,iv s1.n]|2=>[.d s2.t.d,.d s2.p.d,iv s2.n]|_=>[.d s3.t.d,.d s3.p.d,iv s3.n]))]) [1] (fun v=>3-v) (fun v=>v≤3) 0 (by decide) (by repeat' (first|exact trivial|exact rfl|refine And.intro ?_ ?_)) (by repeat' (first|exact trivial|exact rfl|refine And.intro ?_ ?_)) ?_
 intro v hv
 obtain rfl|rfl|rfl|rfl:v=0∨v=1∨v=2∨v=3:=by omega
 ·(repeat (first|refine Spl.t rfl ?_|refine Spl.f rfl ?_))
  refine IdxP.of _ (by decide) rfl ?_
  refine aa a1 (fun _ _=>rfl) rfl rfl rfl ?_
  (repeat (first|refine Spl.t rfl ?_|refine Spl.f rfl ?_))
  exact⟨1,by decide,by decide,(by repeat' (first|exact trivial|exact rfl|refine And.intro ?_ ?_)),(by repeat' (first|exact trivial|exact rfl|refine And.intro ?_ ?_)),(by repeat' (first|exact trivial|exact rfl|refine And.intro ?_ ?_)),(by repeat' (first|exact trivial|exact rfl|refine And.intro ?_ ?_))⟩
 ·(repeat (first|refine Spl.t rfl ?_|refine Spl.f rfl ?_))
  refine IdxP.of _ (by decide) rfl ?_
  refine aa a2 (fun _ _=>rfl) rfl rfl rfl ?_
  (repeat (first|refine Spl.t rfl ?_|refine Spl.f rfl ?_))
  exact⟨2,by decide,by decide,(by repeat' (first|exact trivial|exact rfl|refine And.intro ?_ ?_)),(by repeat' (first|exact trivial|exact rfl|refine And.intro ?_ ?_)),(by repeat' (first|exact trivial|exact rfl|refine And.intro ?_ ?_)),(by repeat' (first|exact trivial|exact rfl|refine And.intro ?_ ?_))⟩
 ·(repeat (first|refine Spl.t rfl ?_|refine Spl.f rfl ?_))
  refine IdxP.of _ (by decide) rfl ?_
  refine aa a3 (fun _ _=>rfl) rfl rfl rfl ?_
  (repeat (first|refine Spl.t rfl ?_|refine Spl.f rfl ?_))
  exact⟨3,by decide,by decide,(by repeat' (first|exact trivial|exact rfl|refine And.intro ?_ ?_)),(by repeat' (first|exact trivial|exact rfl|refine And.intro ?_ ?_)),(by repeat' (first|exact trivial|exact rfl|refine And.intro ?_ ?_)),(by repeat' (first|exact trivial|exact rfl|refine And.intro ?_ ?_))⟩
 ·(repeat (first|refine Spl.t rfl ?_|refine Spl.f rfl ?_))
  (first|refine Sq.go ?_|refine ah (Sq.go ?_)|skip)
  (try refine WJ.cut ?_)
  refine aa xI (fun _ _=>rfl) rfl rfl rfl ?_
  (repeat (first|refine Spl.t rfl ?_|refine Spl.f rfl ?_))
  refine aa xH (fun _ _=>rfl) rfl rfl rfl ?_
  (repeat (first|refine Spl.t rfl ?_|refine Spl.f rfl ?_))
  refine aa xG (fun _ _=>rfl) rfl rfl rfl ?_
  (repeat (first|refine Spl.t rfl ?_|refine Spl.f rfl ?_))
  refine aa tx (fun _ _=>rfl) rfl rfl rfl ?_
  (repeat (first|refine Spl.t rfl ?_|refine Spl.f rfl ?_))
  (first|refine Sq.go ?_|refine ah (Sq.go ?_)|skip)
  (try refine ay _ _ _ _ ?_)
  exact FinP.open rfl rfl
end Go.Proofs.E
namespace Go.Proofs.E
theorem tN {L:List EL}{i:Nat}{e:EL}(h:L[i]?=some e):bO L ((i+1:Nat):Int)=bO L (i:Int)+TR.one e:=by
 unfold bO
 rw[Int.toNat_natCast,Int.toNat_natCast,fk h,List.filter_append,List.length_append,List.filter_cons,iE]
 cases e.dead<;>simp
end Go.Proofs.E
namespace Go.Proofs.E
end Go.Proofs.E
namespace Go.Proofs.E
end Go.Proofs.E
namespace Go.Proofs.E
end Go.Proofs.E
end
section
namespace Go.Gv
open Go.RowKit
section cut
variable {X:Cx} {d:Option Nat} {ty:TypeId} {pos:String} {aft:Array Edge} {g:Option (Nat×Bool)} {t:T} {σ:Sg} {K:T→Sg→Prop}
structure Flat (X:Cx)(H:HF)(w:World)(u:Value)(k:Nat)(ys:List (List D))(vs:List Value):Prop where
 fc:∀w':World,w'.heap=w.heap→(Builtin.firstCells k ys.length u).run X.P w'=.ok vs.toArray w'
 ln:∀w':World,(Builtin.lenOf u).run X.P w'=.ok ys.length w'
 vl:vs.length=ys.length*k
 yk:∀cs,cs∈ys→cs.length=k
 rp:∀(j l:Nat)(cs:List D)(a:D)(u:Value),ys[j]?=some cs→cs[l]?=some a→vs[j*k+l]?=some u→RepD H a u
def FlatQ (X:Cx)(t:T)(σ:Sg)(y:Operand)(k:Nat)(ys:List (List D)):Prop:=∀γ H (a:Act) w,(∀v,ge t y=some v→Rep γ H v (a.eval y))→Mem X.w0 X.H0 X.B γ H σ w→∃vs,Flat X H w (a.eval y) k ys vs
theorem FlatQ.suf {y:Operand}{i k l n:Nat}{xs:List (List D)}(hy:ge t y=some (.suf i k l n))(hi:af i σ=some (.arr k xs))(hl:l+n≤xs.length):FlatQ X t σ y k ((xs.drop l).take n):=by
 intro γ H a w so sm
 have hr:=so _ hy
 generalize hq:a.eval y=q at hr
 cases hr with
 |suf _ _ _ _ A hn hA=>
 obtain⟨hle,hxk,hreal⟩:=sm.ent i _ hi
 have hlen:((xs.drop l).take n).length=n:=by simp;omega
 have hget:∀j cs,((xs.drop l).take n)[j]?=some cs→xs[l+j]?=some cs∧j<n:=fun j cs hj=>by
  rw[List.getElem?_take]at hj
  split at hj
  ·rw[List.getElem?_drop]at hj;exact⟨hj,by assumption⟩
  ·cases hj
 by_cases h0:n=0
 ·subst h0
  refine⟨[],fun w' _=>?_,fun w'=>?_,by simp,fun cs hcs=>by simp at hcs,fun j l' cs a' u h=>by simp at h⟩
  ·rw[hlen];cases A<;>simp[Builtin.firstCells,loadCells,loadCellsFrom]
  ·rw[hlen];exact cU
 ·have hA':=hA (by omega)
  subst hA'
  obtain⟨tt,us,h3,h4,h5⟩:=hreal (by omega)
  have hfit:l*k+n*k≤us.length:=by rw[h4,←Nat.add_mul];exact Nat.mul_le_mul_right _ hn
  refine⟨(us.drop (l*k)).take (n*k),fun w' hw'=>?_,fun w'=>?_,?_,fun cs hcs=>hxk cs (List.mem_of_mem_drop (List.mem_of_mem_take hcs)),fun j l' cs a' u hj hl' hu=>?_⟩
  ·rw[hlen]
   have:=cF (P:=X.P) (w:=w') (b:=(γ i).b) (vs:=fun p=>us.getD (l*k+p) undef) (n*k) (l*k) 0 #[] (fun p hp=>by
    have h6:w'.heap[(γ i).b]?=some (.cells us.toArray tt (0,0)):=by rw[hw'];exact h3
    rw[aN h6]
    simp[List.getElem?_eq_getElem (show l*k+p<us.length by omega)])
   simp only[Builtin.firstCells,loadCells]
   rw[this]
   congr 1
   apply Array.toList_inj.1
   simp only[List.nil_append,List.append_toArray,List.toList_toArray,Array.toList_append]
   apply List.ext_getElem?
   intro p
   simp only[List.getElem?_map,List.getElem?_take,List.getElem?_drop]
   by_cases hp:p<n*k
   ·rw[if_pos hp,List.getElem?_range' (by omega)]
    simp[List.getElem?_eq_getElem (show l*k+p<us.length by omega)]
   ·rw[if_neg hp,List.getElem?_eq_none (by simp;omega)];rfl
  ·rw[hlen];exact cU
  ·rw[List.length_take,List.length_drop,hlen];omega
  ·obtain⟨h6,h7⟩:=hget j cs hj
   rw[List.getElem?_take]at hu
   split at hu
   ·rw[List.getElem?_drop]at hu
    refine h5 (l+j) l' cs a' u h6 hl' ?_
    rw[Nat.add_mul,Nat.add_assoc];exact hu
   ·cases hu
theorem FlatQ.data {y:Operand}{k:Nat}{ys:List (List D)}{av:AV}(hy:ge t y=some av)(hel:elems av=some (k,ys)):FlatQ X t σ y k ys:=by
 intro γ H a w so sm
 have hry:=cN (so _ hy) hel
 obtain⟨hyk,hylen⟩:=cd hry
 obtain⟨B,cy,vs,hqy,hfc,hvl,hvone,hvrep⟩:=dh (P:=X.P) hry
 refine⟨vs,fun w' hw'=>hfc w' fun b o v h=>?_,fun w'=>by rw[hqy];exact cU,hvl,hyk,hvrep⟩
 have:=sm.hok.c b o v h
 simp only[World.cell?,hw']at this ⊢;exact this
theorem rZ {x y:Operand}{st xt el:TypeId}{k bytes:Nat}{z:Value}{xs ys:List (List D)}{av0:AV}(hx:ge t x=some av0)(hfu:FullIs av0 k xs)(hy:FlatQ X t σ y k ys)
 (hu:X.P.underlying st=some (.slice el))(hxu:X.P.underlying xt=some (.slice el))(hz:∀w,(sizeOf el).run X.P w=.ok k w)(hzv:∀w,(zeroValue el).run X.P w=.ok z w)(hzl:z.cells.size=k)
 (hb:∀w,((fun i:TypeInfo=>i.bytes) <$>typeInfo el).run X.P w=.ok bytes w)(hb0:bytes≠0)(hbytes:(3*(xs.length+ys.length)+4096)*bytes≤281474976710656)
 (hm:xs.length+ys.length≤9223372036854775807):
 QJ X ⟨d,.call {callee:=.builtin .append,args:=#[x,y],argTypes:=#[st,xt]},ty,pos,aft,g⟩ t σ (.d (.sl k (xs++ys))):=by
 intro γ H a w hl so sm next Q' hk
 obtain⟨A,hq,hrx⟩:=hfu.rep (so x (by simp[Op.operands,Call.operands]) _ hx)
 obtain⟨hxk,_⟩:=cd hrx
 obtain⟨vs,hfv⟩:=hy γ H a w (fun v hv=>so y (by simp[Op.operands,Call.operands]) v hv) sm
 obtain⟨Bx,cx,us,hqx,hfx,hul,huone,hurep⟩:=dh (P:=X.P) hrx
 have hexec:∀r:Result Value,(Builtin.append_ #[st,xt] ty #[.slice A xs.length xs.length,a.eval y]).run X.P w=r→(execOp a.eval ⟨d,.call {callee:=.builtin .append,args:=#[x,y],argTypes:=#[st,xt]},ty,pos,aft,g⟩).run X.P w=
  r.andThen fun v w=>.ok (.value v) w:=fun r h=>by
  simp only[execOp,resolve,invoke,builtin,List.map_toArray,List.map_cons,List.map_nil,Sem.run_bind,Sem.run_pure,Result.andThen_ok,hq,h]
 by_cases hroom:xs.length+ys.length≤xs.length
 ·have hy0:ys=[]:=List.length_eq_zero_iff.1 (by omega)
  subst hy0
  have hrun:=dH (P:=X.P) (w:=w) (ty:=ty) (A:=A) (n:=xs.length) (c:=xs.length) hu hxu hz hfv.ln (hfv.fc w rfl) (Nat.le_refl _)
  have hv0:vs=[]:=List.length_eq_zero_iff.1 (by rw[hfv.vl];simp)
  subst hv0
  have hrun':(Builtin.append_ #[st,xt] ty #[.slice A xs.length xs.length,a.eval y]).run X.P w=.ok (.slice A xs.length xs.length) w:=by
   rw[hrun];cases A<;>simp[storeCells]
  rw[aD (by simp),hexec _ hrun',Result.andThen_ok,Oper.uponIn_value]
  refine hk _ γ [] H w (sm.refl γ) (.d _ _ ?_)
  rw[List.append_nil]
  rw[hq]at hrx;exact hrx
 ·have hus:∀w':World,w'.heap=w.heap→(Builtin.firstCells k xs.length (.slice A xs.length xs.length)).run X.P w'=.ok us.toArray w':=fun w' hw'=>by
   rw[←hq]
   exact hfx w' fun b o v h=>by
    have:=sm.hok.c b o v h
    simp only[World.cell?,hw']at this ⊢;exact this
  obtain⟨cap,hcap,hrun⟩:=dI (P:=X.P) (w:=w) (ty:=ty) (A:=A) (n:=xs.length) (c:=xs.length) (us:=us) (vs:=vs) hu hxu hz hzv hb hfv.ln hfv.fc hus (by omega) hbytes hb0
  rw[aD (by simp),hexec _ hrun,Result.andThen_ok,Oper.uponIn_value]
  have hzc:(Builtin.zeroCells z.cells (cap-(xs.length+ys.length))).toList.length=(cap-(xs.length+ys.length))*k:=by
   simp[Builtin.zeroCells,hzl]
  have hm0:=sm.drew.new 0 (.arr k (xs++ys)) (.cells (us++vs++(Builtin.zeroCells z.cells (cap-(xs.length+ys.length))).toList).toArray el) cap
   ⟨by rw[ar,List.length_append];exact hcap,fun cs hcs=>by rcases List.mem_append.1 hcs with h|h;exact hxk cs h;exact hfv.yk cs h,fun _=>by
    rw[ar]
    refine⟨el,_,World.alloc_heap_new _ _,?_,?_⟩
    ·rw[List.length_append,List.length_append,hzc,hul,hfv.vl,←Nat.add_mul,←Nat.add_mul]
     congr 1
     show xs.length+ys.length+(cap-(xs.length+ys.length))=cap
     omega
    ·have hvl:=hfv.vl
     refine eK hxk hfv.yk hurep hfv.rp (fun p hp=>?_) (fun p hp=>?_)
     ·rw[List.append_assoc,List.getElem?_append_left (by omega)]
     ·rw[List.append_assoc,List.getElem?_append_right (by omega),hul,show xs.length*k+p-xs.length*k=p from by omega,List.getElem?_append_left (by omega)]⟩ (fun _ _ h=>by cases h)
  have hm':Mem w H (fun _=>False) (upd γ 0 ⟨w.heap.size,cap,fun _=>False⟩) H [(0,.arr k (xs++ys))] (w.drew.alloc (.cells (us++vs++(Builtin.zeroCells z.cells (cap-(xs.length+ys.length))).toList).toArray el)):=
   ⟨⟨hm0.keep.os,hm0.keep.tape,hm0.keep.output,hm0.keep.size,hm0.keep.block⟩,hm0.hle,⟨hm0.hnew.c,hm0.hnew.m⟩,hm0.hok,hm0.ent,hm0.free,hm0.fresh,hm0.apart⟩
  have hl0:af 0 ([(0,Ent.arr k (xs++ys))]:Sg)=some (.arr k (xs++ys)):=by rw[ae,if_pos rfl]
  obtain⟨H',ok,hk2⟩:=hm'.pub hl0 rfl
  have hj:=hm'.join (σr:=[]) hk2 (fun b hb=>⟨0,_,hl0,rfl,hb⟩) (Wk.nil _) (fun i e h=>by cases h) (fun i e h=>by cases h)
  refine hk _ _ _ H' _ hj (.d _ _ ?_)
  have h3:=ok (xs.length+ys.length) (some ⟨w.heap.size,0,none⟩) (by simp) (by rw[ar];exact hcap) (fun _=>by rw[ar]) hm
  rw[List.take_of_length_le (by simp),ar]at h3
  exact h3
theorem jK {x y:Operand}{st xt:TypeId}{k:Nat}{xs ys:List (List D)}{av0:AV}(hx:ge t x=some av0)(hfu:FullIs av0 k xs)(hy:FlatQ X t σ y k ys)(hI:gG X.P st xt=some k)(hb:xs.length+ys.length≤1000000000):
 QJ X ⟨d,.call {callee:=.builtin .append,args:=#[x,y],argTypes:=#[st,xt]},ty,pos,aft,g⟩ t σ (.d (.sl k (xs++ys))):=by
 obtain⟨el,z,bytes,h1,h2,h3,h4,h5,h6,h7,h8⟩:=ez hI
 exact rZ hx hfu hy h1 h2 h3 h4 h5 h6 h7 (fI hb h8) (by omega)
end cut
end Go.Gv
namespace Go.Gv
open Go.RowKit
def HF.cut (H:HF)(b:Nat):HF:=⟨fun c o=>if c=b then none else H.c c o,fun c=>if c=b then none else H.m c⟩
inductive Rd (i k n:Nat)(xs:List (List D)):List AV→List AV→Prop where
 |nil:Rd i k n xs [] []
 |same (a:AV) {l m:List AV} (h:a.open=true) (r:Rd i k n xs l m):Rd i k n xs (a::l) (a::m)
 |row {l m:List AV} (r:Rd i k n xs l m):Rd i k n xs (.arr i k n::l) (.d (.sl k xs)::m)
theorem Rd.get {i k n:Nat}{xs:List (List D)}{l m:List AV}(h:Rd i k n xs l m):l.length=m.length∧∀(j:Nat)(b:AV),m[j]?=some b→∃a,l[j]?=some a∧((a=b∧a.open=true)∨(a=.arr i k n∧b=.d (.sl k xs))):=by
 induction h with
 |nil=>exact⟨rfl,fun j b h=>by simp at h⟩
 |same a ho _ ih=>
  refine⟨by simp[ih.1],fun j b hb=>?_⟩
  cases j with
  |zero=>simp at hb;exact⟨a,rfl,.inl ⟨hb,ho⟩⟩
  |succ j=>exact ih.2 j b (by simpa using hb)
 |row _ ih=>
  refine⟨by simp[ih.1],fun j b hb=>?_⟩
  cases j with
  |zero=>simp at hb;exact⟨_,rfl,.inr ⟨rfl,hb.symm⟩⟩
  |succ j=>exact ih.2 j b (by simpa using hb)
end Go.Gv
namespace Go.Gv
open Go.RowKit
section nilsl
variable {X:Cx} {d:Option Nat} {ty:TypeId} {pos:String} {aft:Array Edge} {g:Option (Nat×Bool)} {t:T} {σ:Sg} {K:T→Sg→Prop}
theorem rG {P:Program}{tt e:TypeId}{w:World}(n:Nat){A:Option Addr}{a b:Nat}(hu:P.underlying tt=some (.slice e)):(Op.equalIn (n+1) tt (.slice A a b) (.slice none 0 0)).run P w=.ok A.isNone w:=by cases A<;>simp[Op.equalIn,underlying,hu]
theorem tg {x y:Operand}{ot yt e:TypeId}{k:Nat}{xs:List (List D)}(hx:ge t x=some (.d (.sl k xs)))(hy:ge t y=some (.d (.v (.slice none 0 0))))(hu:X.P.underlying ot=some (.slice e))(hN:dOk d X.N=true)
 (kk:∀b:Bool,(b=true→xs=[])→K (putT d (.d (.v (.bool b))) t) σ):OpJ X ⟨d,.binOp .eql ot x y yt,ty,pos,aft,g⟩ t σ K:=by
 intro γ H a w s next Q' hk
 have hr:=fu (aL s.tmp hx)
 have e2:=aR (aL s.tmp hy)
 generalize hq:a.eval x=q at hr
 cases hr with
 |sl _ _ A c b o us hkk hn hc hA hH hrr=>
 have hexec:(execOp a.eval ⟨d,.binOp .eql ot x y yt,ty,pos,aft,g⟩).run X.P w=.ok (.value (.bool A.isNone)) w:=by
  have h9:(Op.equal ot (.slice A xs.length c) (.slice none 0 0)).run X.P w=.ok A.isNone w:=ce.trans (rG 9999 hu)
  simp[execOp,hq,e2,eqGuard,binOp,h9]
 rw[aD (by simp),hexec,Oper.uponIn_value]
 refine hk γ H _ _ _ w (s.calm (d:=d) (V:=.d (.v (.bool A.isNone))) (s.mem.refl γ) hN (.d _ _ (.v _ rfl))) (kk _ fun hb=>?_)
 rcases Nat.eq_zero_or_pos xs.length with h|h
 ·exact List.length_eq_zero_iff.1 h
 ·rw[hA h]at hb;cases hb
end nilsl
theorem Ct.view {Λ:Amb}{P:Program}{f:FuncId}{avs bvs:List AV}{σ:Sg}{Q:AV→Sg→Prop}(h:Ct Λ P f avs σ Q)(hl:bvs.length=avs.length)
 (hv:∀(j:Nat)(a b:AV),avs[j]?=some a→bvs[j]?=some b→∀γ H u,Rep γ H b u→Rep γ H a u):Ct Λ P f bvs σ Q:=
 fun ro γ H w vs h1 h2 h3 h4=>h ro γ H w vs h1 h2 (h3.trans hl) fun j a u ha hu=>by
  have hj:j<bvs.length:=by rw[hl];exact(List.getElem?_eq_some_iff.1 ha).1
  exact hv j a bvs[j] ha (by simp[hj]) γ H u (h4 j bvs[j] u (by simp[hj]) hu)
end Go.Gv
namespace Go.Gv
open Go.RowKit
section birth
variable {X:Cx} {d:Option Nat} {ty:TypeId} {pos:String} {aft:Array Edge} {g:Option (Nat×Bool)} {t:T} {σ:Sg}
theorem B.appendF {i:Nat}{x y:Operand}{st xt el:TypeId}{k bytes:Nat}{z:Value}{xs ys:List (List D)}{av0:AV}(hx:ge t x=some av0)(hfu:FullIs av0 k xs)(hy:FlatQ X t σ y k ys)
 (hu:X.P.underlying st=some (.slice el))(hxu:X.P.underlying xt=some (.slice el))(hz:∀w,(sizeOf el).run X.P w=.ok k w)(hzv:∀w,(zeroValue el).run X.P w=.ok z w)(hzl:z.cells.size=k)
 (hb:∀w,((fun i:TypeInfo=>i.bytes) <$>typeInfo el).run X.P w=.ok bytes w)(hb0:bytes≠0)(hbytes:(3*(xs.length+ys.length)+4096)*bytes≤281474976710656)(hne:ys≠[]∨xs=[]):
 BirthJ X ⟨d,.call {callee:=.builtin .append,args:=#[x,y],argTypes:=#[st,xt]},ty,pos,aft,g⟩ t σ i (.arr i k (xs.length+ys.length)) (.arr k (xs++ys)):=by
 intro γ H a w so sm
 obtain⟨A,hq,hrx⟩:=hfu.rep (so x (by simp[Op.operands,Call.operands]) _ hx)
 obtain⟨hxk,_⟩:=cd hrx
 obtain⟨vs,hfv⟩:=hy γ H a w (fun v hv=>so y (by simp[Op.operands,Call.operands]) v hv) sm
 obtain⟨Bx,cx,us,hqx,hfx,hul,huone,hurep⟩:=dh (P:=X.P) hrx
 have hexec:∀(v:Value)(w':World),(Builtin.append_ #[st,xt] ty #[.slice A xs.length xs.length,a.eval y]).run X.P w=.ok v w'→((⟨d,.call {callee:=.builtin .append,args:=#[x,y],argTypes:=#[st,xt]},ty,pos,aft,g⟩:Oper).semAt X.ro a.eval).run X.P w=.ok (.value v) w':=fun v w' h=>by
  rw[aD (by simp)]
  simp only[execOp,resolve,invoke,builtin,List.map_toArray,List.map_cons,List.map_nil,Sem.run_bind,Sem.run_pure,Result.andThen_ok,hq,h]
 by_cases hroom:xs.length+ys.length≤xs.length
 ·have hy0:ys=[]:=List.length_eq_zero_iff.1 (by omega)
  have hx0:xs=[]:=by rcases hne with h|h;exact absurd hy0 h;exact h
  subst hx0;subst hy0
  have hrun:=dH (P:=X.P) (w:=w) (ty:=ty) (A:=A) (n:=0) (c:=0) hu hxu hz hfv.ln (hfv.fc w rfl) (Nat.le_refl _)
  have hv0:vs=[]:=List.length_eq_zero_iff.1 (by rw[hfv.vl];simp)
  subst hv0
  have hrun':(Builtin.append_ #[st,xt] ty #[.slice A ([]:List (List D)).length ([]:List (List D)).length,a.eval y]).run X.P w=.ok (.slice A 0 0) w:=by
   simp only[List.length_nil]at hrun ⊢
   rw[hrun];cases A<;>simp[storeCells]
  refine⟨_,0,w,hexec _ _ hrun',lW sm.hok γ i k,?_⟩
  have:=Rep.arr (γ:=upd γ i ⟨w.heap.size,0,fun _=>False⟩) (H:=H) i k 0 A
  rw[ar]at this
  exact this (Nat.zero_le _) (fun h=>by simp at h)
 ·have hus:∀w':World,w'.heap=w.heap→(Builtin.firstCells k xs.length (.slice A xs.length xs.length)).run X.P w'=.ok us.toArray w':=fun w' hw'=>by
   rw[←hq]
   exact hfx w' fun b o v h=>by
    have:=sm.hok.c b o v h
    simp only[World.cell?,hw']at this ⊢;exact this
  obtain⟨cap,hcap,hrun⟩:=dI (P:=X.P) (w:=w) (ty:=ty) (A:=A) (n:=xs.length) (c:=xs.length) (us:=us) (vs:=vs) hu hxu hz hzv hb hfv.ln hfv.fc hus (by omega) hbytes hb0
  have hzc:(Builtin.zeroCells z.cells (cap-(xs.length+ys.length))).toList.length=(cap-(xs.length+ys.length))*k:=by
   simp[Builtin.zeroCells,hzl]
  have hm0:=sm.drew.new i (.arr k (xs++ys)) (.cells (us++vs++(Builtin.zeroCells z.cells (cap-(xs.length+ys.length))).toList).toArray el) cap
   ⟨by rw[ar,List.length_append];exact hcap,fun cs hcs=>by rcases List.mem_append.1 hcs with h|h;exact hxk cs h;exact hfv.yk cs h,fun _=>by
    rw[ar]
    refine⟨el,_,World.alloc_heap_new _ _,?_,?_⟩
    ·rw[List.length_append,List.length_append,hzc,hul,hfv.vl,←Nat.add_mul,←Nat.add_mul]
     congr 1
     show xs.length+ys.length+(cap-(xs.length+ys.length))=cap
     omega
    ·have hvl:=hfv.vl
     refine eK hxk hfv.yk hurep hfv.rp (fun p hp=>?_) (fun p hp=>?_)
     ·rw[List.append_assoc,List.getElem?_append_left (by omega)]
     ·rw[List.append_assoc,List.getElem?_append_right (by omega),hul,show xs.length*k+p-xs.length*k=p from by omega,List.getElem?_append_left (by omega)]⟩ (fun _ _ h=>by cases h)
  have hm':Mem w H (fun _=>False) (upd γ i ⟨w.heap.size,cap,fun _=>False⟩) H [(i,.arr k (xs++ys))] (w.drew.alloc (.cells (us++vs++(Builtin.zeroCells z.cells (cap-(xs.length+ys.length))).toList).toArray el)):=
   ⟨⟨hm0.keep.os,hm0.keep.tape,hm0.keep.output,hm0.keep.size,hm0.keep.block⟩,hm0.hle,⟨hm0.hnew.c,hm0.hnew.m⟩,hm0.hok,hm0.ent,hm0.free,hm0.fresh,hm0.apart⟩
  refine⟨_,cap,_,hexec _ _ hrun,hm',?_⟩
  have:=Rep.arr (γ:=upd γ i ⟨w.heap.size,cap,fun _=>False⟩) (H:=H) i k (xs.length+ys.length) (some ⟨w.heap.size,0,none⟩)
  rw[ar]at this
  exact this hcap (fun _=>rfl)
theorem B.appF {i:Nat}{x y:Operand}{st xt:TypeId}{k:Nat}{xs ys:List (List D)}{av0:AV}(hx:ge t x=some av0)(hfu:FullIs av0 k xs)(hy:FlatQ X t σ y k ys)(hI:gG X.P st xt=some k)(hb:xs.length+ys.length≤1000000000)(hne:ys≠[]∨xs=[]):
 BirthJ X ⟨d,.call {callee:=.builtin .append,args:=#[x,y],argTypes:=#[st,xt]},ty,pos,aft,g⟩ t σ i (.arr i k (xs.length+ys.length)) (.arr k (xs++ys)):=by
 obtain⟨el,z,bytes,h1,h2,h3,h4,h5,h6,h7,h8⟩:=ez hI
 exact B.appendF hx hfu hy h1 h2 h3 h4 h5 h6 h7 (fI hb h8) hne
end birth
end Go.Gv
end
section
open Go Go.Gv
attribute [local irreducible] Go.Gv.WJ Go.Gv.OpJ Go.Gv.QJ Go.Gv.Spl Go.Gv.Req Go.Gv.IdxP Go.Gv.RegP Go.Gv.FinP Go.Gv.CellP Go.Gv.CellsP Go.Gv.ArrP Go.Gv.ArrsP Go.Gv.DropP Go.Gv.ByteP Go.Gv.StoreP
set_option maxRecDepth 100000
namespace Go.Proofs.E
end Go.Proofs.E
namespace Go.Proofs.E
attribute [local irreducible] elems
end Go.Proofs.E
namespace Go.Proofs.E
attribute [local irreducible] elems
end Go.Proofs.E
namespace Go.Proofs.E
attribute [local irreducible] elems
end Go.Proofs.E
namespace Go.Proofs.E
attribute [local irreducible] elems
abbrev rmv (R:List OP):AV:=.agg [.d (.sl 6 (R.map opD))]
def rK (R:List OP)(o:OP):Bool:=R.any fun x=>decide (x=o)
def ki (R:List OP)(o:OP):Bool:=R.any fun x=>decide (x.k=0∧o.k=0∧x.i=o.i)
def iM (R:List OP)(o:OP):Int:=if aC o≠0 then aC o else if rK R o=true then 4 else if ki R o=true then 5 else if 16≤R.length then 7 else 0
def ik (R:List OP)(o:OP):List OP:=if iM R o=0 then R++[o]else R
def bl (l:List OP):List OP→Int
 |[]=>-1
 |o::r=>if aq l o≠6 then 0 else(if bl l r<0 then-1 else bl l r+1)
def OP0:OP:=⟨0,⟨0,0⟩,⟨0,0⟩,0⟩
def dT (l R:List OP):List OP:=if bl l R<0 then R else R.take (bl l R).toNat++R.drop ((bl l R).toNat+1)
def eO (l R:List OP):OP:=if bl l R<0 then OP0 else R.getD (bl l R).toNat OP0
def fM (R:List OP):Int:=R.foldl (fun n o=>if o.i.c>n then o.i.c else n) 0
theorem AL (R:List OP):Cv 250 [rmv R] (iv R.length):=by
 refine ab Tryz.f250 Tryz.func250 rfl rfl fun w H B g0=>?_
 refine FinP.open rfl (congrArg iv ?_)
 rw[List.length_map]
theorem xC (R:List OP)(hR:R.length≤1000000):Cv 157 [.d (.sl 6 (R.map opD))] (.d (.sl 6 (R.map opD))):=by
 refine ab Tryz.f157 Tryz.func157 rfl rfl fun w H B g0=>?_
 refine tg rfl rfl rfl rfl fun b hb=>?_
 cases b with
 |true=>
  have h0:=hb rfl
  (repeat (first|refine Spl.t rfl ?_|refine Spl.f rfl ?_))
  rw[h0]
  exact FinP.view (fun _ _ _ h=>bi 6 h) (FinP.open rfl rfl)
 |false=>
  (repeat (first|refine Spl.t rfl ?_|refine Spl.f rfl ?_))
  refine bq (jK rfl (.full _ _) (FlatQ.data rfl rfl) rfl (by show 0+_≤_;rw[List.length_map];omega)) rfl ?_
  exact FinP.open rfl rfl
theorem AM (R:List OP)(hR:R.length≤1000000):Cv 151 [rmv R] (.d (.sl 6 (R.map opD))):=by
 refine ab Tryz.f151 Tryz.func151 rfl rfl fun w H B g0=>?_
 refine aa (xC R hR) (fun _ _=>rfl) rfl rfl rfl ?_
 exact FinP.open rfl rfl
theorem uP (R:List OP)(o:OP):fM (R++[o])=if o.i.c>fM R then o.i.c else fM R:=by unfold fM;rw[List.foldl_append];rfl
theorem zh (R:List OP)(hR:R.length≤1000000):Cv 237 [rmv R] (iv (fM R)):=by
 refine ab Tryz.f237 Tryz.func237 rfl rfl fun w H B g0=>?_
 refine ba (V:=Nat) (fun i=>[(9,iv i),(3,iv (fM (R.take i)))]) (fun _=>[]) [] (fun i=>R.length-i) (fun i=>i≤R.length) 0 (by omega) (by repeat' (first|exact trivial|exact rfl|refine And.intro ?_ ?_)) (by repeat' (first|exact trivial|exact rfl|refine And.intro ?_ ?_)) ?_
 intro i hi
 refine Spl.of (fun h1=>?_) (fun h1=>?_)
 ·have hlt:i<R.length:=by have:=of_decide_eq_true h1;simp at this;omega
  have hx:R[i]?=some R[i]:=by simp
  have hsn:=fk hx
  have htp:=uP (R.take i) R[i]
  rw[←hsn]at htp
  (repeat (first|refine Spl.t rfl ?_|refine Spl.f rfl ?_))
  refine IdxP.of (opD R[i]) (by omega) (by simp[hx]) ?_
  exact⟨i+1,by omega,by omega,⟨aE (am _ (by omega) (by omega)),aE htp.symm,trivial⟩,(by repeat' (first|exact trivial|exact rfl|refine And.intro ?_ ?_)),(by repeat' (first|exact trivial|exact rfl|refine And.intro ?_ ?_)),(by repeat' (first|exact trivial|exact rfl|refine And.intro ?_ ?_))⟩
 ·have h1:=of_decide_eq_false h1
  simp at h1
  (repeat (first|refine Spl.t rfl ?_|refine Spl.f rfl ?_))
  exact FinP.open rfl (congrArg iv (by rw[List.take_of_length_le (by omega)]))
theorem ww (R:List OP)(x o:OP):rK (R++[x]) o=(rK R o||decide (x=o)):=by unfold rK;rw[List.any_append];simp
theorem rO (R:List OP)(x o:OP):ki (R++[x]) o=(ki R o||decide (x.k=0∧o.k=0∧x.i=o.i)):=by unfold ki;rw[List.any_append];simp
theorem Ai {R:List OP}{o:OP}{i:Nat}(h:R[i]?=some o):rK R o=true:=List.any_eq_true.2 ⟨o,List.mem_of_getElem? h,by simp⟩
theorem tu (R:List OP)(o:OP):List.drop (Int.toNat 0) (List.take ((R.map opD).length:Int).toNat (R.map opD))++[opD o]=(R++[o]).map opD:=by
 rw[Int.toNat_natCast,List.take_length,List.map_append];rfl
theorem zp (R:List OP)(o:OP)(hR:R.length≤1000000):Cv 243 [rmv R,opv o] (.tup [rmv (ik R o),iv (iM R o)]):=by
 refine aU Tryz.f243 Tryz.func243 rfl rfl fun w H B g0=>?_
 (try refine WJ.cut ?_)
 (first|refine Sq.go ?_|refine ah (Sq.go ?_)|skip)
 (try refine WJ.cut ?_)
 refine aa (eM o) (fun _ _=>rfl) rfl rfl rfl ?_
 (first|refine Sq.go ?_|refine ah (Sq.go ?_)|skip)
 (try refine WJ.cut ?_)
 refine Spl.of (fun h1=>?_) (fun h1=>?_)
 ·have h1:aC o≠0:=by simpa using h1
  have hE:iM R o=aC o:=by unfold iM;rw[if_pos h1]
  (repeat (first|refine Spl.t rfl ?_|refine Spl.f rfl ?_))
  refine .out (by simp) ?_
  refine FinP.open rfl ?_
  unfold ik
  rw[hE,if_neg h1];rfl
 have h1:aC o=0:=by simpa using h1
 have hE:iM R o=if rK R o=true then 4 else if ki R o=true then 5 else if 16≤R.length then 7 else 0:=by unfold iM;rw[if_neg (fun e=>e h1)]
 (first|refine Sq.go ?_|refine ah (Sq.go ?_)|skip)
 (try refine WJ.cut ?_)
 (first|refine Sq.go ?_|refine ah (Sq.go ?_)|skip)
 (try refine WJ.cut ?_)
 refine ba (V:=Nat) (fun i=>[(20,iv i),(7,bv (ki (R.take i) o))]) (fun _=>[]) [] (fun i=>R.length-i) (fun i=>i≤R.length∧rK (R.take i) o=false) 0 ⟨by omega,rfl⟩ (by repeat' (first|exact trivial|exact rfl|refine And.intro ?_ ?_)) (by repeat' (first|exact trivial|exact rfl|refine And.intro ?_ ?_)) ?_
 rintro i ⟨hi,hdup⟩
 refine Spl.of (fun h2=>?_) (fun h2=>?_)
 ·have hlt:i<R.length:=by have:=of_decide_eq_true h2;simp at this;omega
  have hx:R[i]?=some R[i]:=by simp
  have hsn:=fk hx
  have hds:=ww (R.take i) R[i] o
  have hcs:=rO (R.take i) R[i] o
  rw[←hsn]at hds hcs
  generalize R[i]=x at hx hds hcs
  (repeat (first|refine Spl.t rfl ?_|refine Spl.f rfl ?_))
  refine IdxP.of (opD x) (by omega) (by simp[hx]) ?_
  (repeat (first|refine Spl.t rfl ?_|refine Spl.f rfl ?_))
  refine bq (O.eqT 4 rfl rfl rfl rfl rfl Ag Bh (eqO x o)) rfl ?_
  refine Spl.of (fun h3=>?_) (fun h3=>?_)
  ·have h3:x=o:=of_decide_eq_true h3
   rw[h3]at hx
   have hd:=Ai hx
   rw[if_pos hd]at hE
   (repeat (first|refine Spl.t rfl ?_|refine Spl.f rfl ?_))
   refine .out (by simp) ?_
   refine FinP.open rfl ?_
   unfold ik
   rw[hE];rfl
  ·have h3:¬x=o:=of_decide_eq_false h3
   rw[hdup,decide_eq_false h3]at hds
   refine Spl.of (fun h4=>?_) (fun h4=>?_)
   ·rw[h4,Bool.true_or]at hcs
    (repeat (first|refine Spl.t rfl ?_|refine Spl.f rfl ?_))
    exact⟨i+1,⟨by omega,hds⟩,by omega,⟨aE (am _ (by omega) (by omega)),kX hcs.symm,trivial⟩,(by repeat' (first|exact trivial|exact rfl|refine And.intro ?_ ?_)),(by repeat' (first|exact trivial|exact rfl|refine And.intro ?_ ?_)),(by repeat' (first|exact trivial|exact rfl|refine And.intro ?_ ?_))⟩
   ·rw[h4,Bool.false_or]at hcs
    (repeat (first|refine Spl.t rfl ?_|refine Spl.f rfl ?_))
    refine Spl.of (fun h5=>?_) (fun h5=>?_)
    ·have h5:x.k=0:=of_decide_eq_true h5
     (repeat (first|refine Spl.t rfl ?_|refine Spl.f rfl ?_))
     refine Spl.of (fun h6=>?_) (fun h6=>?_)
     ·have h6:o.k=0:=of_decide_eq_true h6
      have e:decide (x.k=0∧o.k=0∧x.i=o.i)=decide (x.i=o.i):=decide_eq_decide.2 ⟨fun h=>h.2.2,fun h=>⟨h5,h6,h⟩⟩
      rw[e]at hcs
      (repeat (first|refine Spl.t rfl ?_|refine Spl.f rfl ?_))
      refine bq (O.eqT 3 rfl rfl rfl rfl rfl mE p6 (eqI x.i o.i)) rfl ?_
      (repeat (first|refine Spl.t rfl ?_|refine Spl.f rfl ?_))
      exact⟨i+1,⟨by omega,hds⟩,by omega,⟨aE (am _ (by omega) (by omega)),kX hcs.symm,trivial⟩,(by repeat' (first|exact trivial|exact rfl|refine And.intro ?_ ?_)),(by repeat' (first|exact trivial|exact rfl|refine And.intro ?_ ?_)),(by repeat' (first|exact trivial|exact rfl|refine And.intro ?_ ?_))⟩
     ·have h6:¬o.k=0:=of_decide_eq_false h6
      rw[decide_eq_false (fun h=>h6 h.2.1)]at hcs
      (repeat (first|refine Spl.t rfl ?_|refine Spl.f rfl ?_))
      exact⟨i+1,⟨by omega,hds⟩,by omega,⟨aE (am _ (by omega) (by omega)),kX hcs.symm,trivial⟩,(by repeat' (first|exact trivial|exact rfl|refine And.intro ?_ ?_)),(by repeat' (first|exact trivial|exact rfl|refine And.intro ?_ ?_)),(by repeat' (first|exact trivial|exact rfl|refine And.intro ?_ ?_))⟩
    ·have h5:¬x.k=0:=of_decide_eq_false h5
     rw[decide_eq_false (fun h=>h5 h.1)]at hcs
     (repeat (first|refine Spl.t rfl ?_|refine Spl.f rfl ?_))
     exact⟨i+1,⟨by omega,hds⟩,by omega,⟨aE (am _ (by omega) (by omega)),kX hcs.symm,trivial⟩,(by repeat' (first|exact trivial|exact rfl|refine And.intro ?_ ?_)),(by repeat' (first|exact trivial|exact rfl|refine And.intro ?_ ?_)),(by repeat' (first|exact trivial|exact rfl|refine And.intro ?_ ?_))⟩
 ·have h2:=of_decide_eq_false h2
  simp at h2
  have hall:R.take i=R:=List.take_of_length_le (by omega)
  rw[hall]at hdup ⊢
  rw[hdup,if_neg (by decide)]at hE
  (repeat (first|refine Spl.t rfl ?_|refine Spl.f rfl ?_))
  (first|refine Sq.go ?_|refine ah (Sq.go ?_)|skip)
  (try refine WJ.cut ?_)
  (first|refine Sq.go ?_|refine ah (Sq.go ?_)|skip)
  (try refine WJ.cut ?_)
  refine Spl.of (fun h3=>?_) (fun h3=>?_)
  ·rw[h3,if_pos rfl]at hE
   (repeat (first|refine Spl.t rfl ?_|refine Spl.f rfl ?_))
   refine .out (by simp) ?_
   refine FinP.open rfl ?_
   unfold ik
   rw[hE];rfl
  ·rw[h3,if_neg (by decide)]at hE
   (repeat (first|refine Spl.t rfl ?_|refine Spl.f rfl ?_))
   refine Spl.of (fun h4=>?_) (fun h4=>?_)
   ·have h4:=of_decide_eq_true h4
    simp at h4
    rw[if_pos (by omega)]at hE
    (repeat (first|refine Spl.t rfl ?_|refine Spl.f rfl ?_))
    refine .out (by simp) ?_
    refine FinP.open rfl ?_
    unfold ik
    rw[hE];rfl
   ·have h4:=of_decide_eq_false h4
    simp at h4
    rw[if_neg (by omega)]at hE
    (repeat (first|refine Spl.t rfl ?_|refine Spl.f rfl ?_))
    (first|refine Sq.go ?_|refine ah (Sq.go ?_)|skip)
    (try refine ay _ _ _ _ ?_)
    refine aB 0 9 [] rfl (by decide+kernel) ?_
    refine Req.of ⟨by omega,by omega,by omega,rfl⟩ ?_
    refine QuietP.of (jK rfl (.full _ _) (FlatQ.data rfl rfl) rfl (by show _+1≤_;rw[List.length_drop,List.length_take,List.length_map];omega)) ?_
    (repeat' (first|exact trivial|refine And.intro ?_ ?_))
    refine FinP.open rfl ?_
    unfold ik
    rw[hE,if_pos rfl,rmv,←tu R];rfl
end Go.Proofs.E
end
