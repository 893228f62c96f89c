/- Laws that the claim's text stands on: part M2 of them. -/
import Derived.Test.YtaojepfldokjdaaGreatDoorM1
import Derived.OrdersIn
set_option linter.unusedVariables false
set_option linter.unusedSimpArgs false
section
namespace Go.Gv
open Go.RowKit
def upd (γ:Ids)(i:Nat)(p:Pl):Ids:=fun j=>if j=i then p else γ j
theorem ap (γ:Ids)(i:Nat)(p:Pl):upd γ i p i=p:=by simp[upd]
theorem cN (γ:Ids){i j:Nat}(p:Pl)(h:j≠i):upd γ i p j=γ j:=by simp[upd,h]
theorem Mem.new {w0 w:World}{H0 H:HF}{B:Nat→Prop}{γ:Ids}{σ:Sg}(h:Mem w0 H0 B γ H σ w)(i:Nat)(e:Ent)(o:Obj)(n:Nat)(he:EntOk (upd γ i ⟨w.heap.size,n,fun _=>False⟩) H (w.alloc o) i e)(hr:∀ρ s,e≠ .res ρ s):
 Mem w H (fun _=>False) (upd γ i ⟨w.heap.size,n,fun _=>False⟩) H [(i,e)] (w.alloc o):=by
 have one:∀j f,look j ([(i,e)]:Sg)=some f→j=i∧f=e:=fun j f hj=>by
  rw[ae]at hj
  split at hj
  ·next e'=>exact⟨e',by simpa using hj.symm⟩
  ·simp[look]at hj
 have bk:∀b,blk (upd γ i ⟨w.heap.size,n,fun _=>False⟩) i e b→b=w.heap.size:=fun b hb=>by
  cases e with
  |gone=>exact hb.elim
  |cells cs=>simpa[blk,ap]using hb
  |cellsT t cs=>simpa[blk,ap]using hb
  |arr k xs=>have:=hb.1;simpa[ap]using this
  |arrT t k xs=>have:=hb.1;simpa[ap]using this
  |mp ag ks vs=>simpa[blk,ap]using hb
  |obj o=>simpa[blk,ap]using hb
  |res ρ s=>exact absurd rfl (hr ρ s)
 have old:∀k,k<w.heap.size→(w.alloc o).heap[k]?=w.heap[k]?:=fun k hk=>Below.heap_alloc w o k hk
 refine⟨⟨rfl,rfl,rfl,by simp,fun k hk _=>old k hk⟩,HLe.refl _,HNew.refl _ _ _,⟨fun b o' v hv=>?_,fun b es c hv=>?_⟩,fun j f hj=>?_,fun j f hj b hb=>?_,fun j f hj b hb=>?_,fun j f l f' b hj hl hb hb'=>?_⟩
 ·have h1:=h.hok.c b o' v hv
  have hlt:=cr h1
  simp only[World.cell?]at h1 ⊢
  rw[old b hlt];exact h1
 ·have h1:=h.hok.m b es c hv
  exact(old b (aF h1)).trans h1
 ·obtain⟨rfl,rfl⟩:=one j f hj;exact he
 ·obtain⟨rfl,rfl⟩:=one j f hj
  obtain rfl:=bk b hb
  refine⟨fun o'=>?_,?_⟩
  ·cases hx:H.c w.heap.size o' with
   |none=>rfl
   |some v=>have:=cr (h.hok.c _ _ _ hx);omega
  ·cases hx:H.m w.heap.size with
   |none=>rfl
   |some v=>have:=aF (h.hok.m _ v.1 v.2 hx);omega
 ·obtain⟨rfl,rfl⟩:=one j f hj
  have:=bk b hb;exact .inl (by omega)
 ·obtain⟨rfl,_⟩:=one j f hj;obtain⟨rfl,_⟩:=one l f' hl;rfl
theorem St.new {X:Cx}{γ:Ids}{H:HF}{t:T}{σ:Sg}{a:Act}{w w':World}{i n:Nat}{e:Ent}(s:St X γ H t σ a w)(k:Mem w H (fun _=>False) (upd γ i ⟨w.heap.size,n,fun _=>False⟩) H [(i,e)] w')(hf:am i t σ X.pin=true)
 {d:Option Nat}{V:AV}{v:Value}(hN:dOk d X.N=true)(r:Rep (upd γ i ⟨w.heap.size,n,fun _=>False⟩) H V v):St X (upd γ i ⟨w.heap.size,n,fun _=>False⟩) H (putT d V t) ((i,e)::σ) (a.put d v) w':=by
 have o:∀j,j≠i→γ j=upd γ i ⟨w.heap.size,n,fun _=>False⟩ j:=fun j hj=>(cN γ _ hj).symm
 refine s.step (σ':=[(i,e)]) (σr:=σ) k (fun _ h=>h.elim) (Wk.refl σ) (fun j f hj=>?_) (fun j f hj=>⟨o j (aS hf hj).1,fun l hl=>o l fun e'=>?_⟩) (fun j hj=>o j (gb hf hj)) (fun j x hj l hl=>o l fun e'=>?_) hN r
 ·rw[ae,if_neg (aS hf hj).1];rfl
 ·subst e';rw[(aS hf hj).2]at hl;cases hl
 ·subst e';rw[dK hf hj]at hl;cases hl
theorem Mem.turn {w0 w w':World}{H0 H:HF}{B:Nat→Prop}{γ:Ids}{σ:Sg}{i:Nat}{e e':Ent}(h:Mem w0 H0 B γ H σ w)(hi:look i σ=some e)(hb:blk γ i e (γ i).b)(hs:SameBut (γ i).b w w')(he:EntOk γ H w' i e')
 (hb':∀b,blk γ i e' b→b=(γ i).b):Mem w H (fun b=>b=(γ i).b) γ H [(i,e')] w':=by
 have one:∀j f,look j ([(i,e')]:Sg)=some f→j=i∧f=e':=fun j f hj=>by
  rw[ae]at hj
  split at hj
  ·next e'=>exact⟨e',by simpa using hj.symm⟩
  ·simp[look]at hj
 have hfree:=h.free i e hi _ hb
 refine⟨⟨hs.os,hs.tape,hs.output,Nat.le_of_eq hs.size.symm,fun k _ hk=>hs.block k hk⟩,HLe.refl _,HNew.refl _ _ _,⟨fun b o v hv=>?_,fun b es c hv=>?_⟩,fun j f hj=>?_,fun j f hj b hq=>?_,fun j f hj b hq=>?_,fun j f l f' b hj hl hq hq'=>?_⟩
 ·have hne:b≠(γ i).b:=fun e=>by subst e;rw[hfree.c]at hv;cases hv
  have:=h.hok.c b o v hv
  simp only[World.cell?]at this ⊢
  rw[hs.block b hne];exact this
 ·have hne:b≠(γ i).b:=fun e=>by subst e;rw[hfree.m]at hv;cases hv
  exact(hs.block b hne).trans (h.hok.m b es c hv)
 ·obtain⟨rfl,rfl⟩:=one j f hj;exact he
 ·obtain⟨rfl,rfl⟩:=one j f hj;rw[hb' b hq];exact hfree
 ·obtain⟨rfl,rfl⟩:=one j f hj;exact .inr (hb' b hq)
 ·obtain⟨rfl,_⟩:=one j f hj;obtain⟨rfl,_⟩:=one l f' hl;rfl
theorem St.turn {X:Cx}{γ:Ids}{H:HF}{t:T}{σ:Sg}{a:Act}{w w':World}{i:Nat}{e e':Ent}(s:St X γ H t σ a w)(hi:look i σ=some e)(hb:blk γ i e (γ i).b)(k:Mem w H (fun b=>b=(γ i).b) γ H [(i,e')] w')
 {d:Option Nat}{V:AV}{v:Value}(hN:dOk d X.N=true)(r:Rep γ H V v):St X γ H (putT d V t) ((i,e')::σ) (a.put d v) w':=by
 have key:=s.step (σr:=σ.filter fun p=>!Nat.beq p.1 i) k (fun b hb'=>⟨i,e,hi,?_,by rw[hb'];exact hb⟩) (fun j f hj=>?_) (fun j f hj=>?_) (fun _ _ _=>⟨rfl,fun _ _=>rfl⟩) (fun _ _=>rfl) (fun _ _ _ _ _=>rfl) hN r
 ·refine key.wk (Wk.refl _) fun j f hj=>?_
  rw[ae]at hj
  rw[List.singleton_append,ae]
  split at hj
  ·next e1=>rw[if_pos e1];exact hj
  ·next e1=>
   rw[if_neg e1,ba (q:=fun j=>!Nat.beq j i)]
   have:Nat.beq j i=false:=by rw[←Bool.not_eq_true,Nat.beq_eq];exact e1
   rw[this];exact hj
 ·rw[ba (q:=fun j=>!Nat.beq j i)];simp
 ·rw[ba (q:=fun j=>!Nat.beq j i)]at hj
  split at hj
  ·exact hj
  ·cases hj
 ·rw[ba (q:=fun j=>!Nat.beq j i)]at hj
  rw[ae]
  split at hj
  ·next h1=>
   have:j≠i:=fun e=>by subst e;simp at h1
   rw[if_neg this];rfl
  ·cases hj
section
variable {X:Cx} {d:Option Nat} {ty:TypeId} {pos:String} {aft:Array Edge} {g:Option (Nat×Bool)} {t:T} {σ:Sg} {K:T→Sg→Prop}
theorem js {γ:Ids}{H:HF}{a:AV}{u:Value}{i:Nat}{p:Pl}(r:Rep γ H a u)(h:aP i a=false):Rep (upd γ i p) H a u:=
 r.agree fun j hj=>by
  have:j≠i:=fun e=>by subst e;rw[h]at hj;cases hj
  exact(cN γ p this).symm
theorem nL {γ:Ids}{H:HF}{a:Act}{w:World}{i:Nat}{e:TypeId}{cs:List AV}{us:List Value}{dd:Option Nat}
 (s:St X γ H t σ a w)(hf:am i t σ X.pin=true)(hN:dOk dd X.N=true)(hl:us.length=cs.length)(hr:∀(j:Nat)(x:AV)(y:Value),cs[j]?=some x→us[j]?=some y→Rep γ H x y)
 (hc:cs.any (aP i)=false):
 St X (upd γ i ⟨w.heap.size,0,fun _=>False⟩) H (putT dd (.box i 0) t) ((i,.cells cs)::σ) (a.put dd (.pointer (some ⟨w.heap.size,0,none⟩))) (w.alloc (.cells us.toArray e)):=by
 refine s.new (s.mem.new i (.cells cs) _ 0 ⟨e,us,?_,hl,fun j x y hx hy=>js (hr j x y hx hy) (q8 hc hx)⟩ (fun _ _ h=>by cases h)) hf hN ?_
 ·rw[ap];exact World.alloc_heap_new w _
 ·have:=Rep.box (γ:=upd γ i ⟨w.heap.size,0,fun _=>False⟩) (H:=H) i 0
  rw[ap]at this;exact this
theorem O.box {i:Nat}{e:TypeId}{x:Operand}{av:AV}(hN:dOk (some i) X.N=true)(hx:ge t x=some av)(h1:cz av=true)(hf:am i t σ X.pin=true)(hc:(aE av).any (aP i)=false)
 (k:K ((i,.box i 0)::t) ((i,.cells (aE av))::σ)):OpJ X ⟨some i,.box e x,ty,pos,aft,g⟩ t σ K:=by
 intro γ H a w s next Q' hk
 obtain⟨us,hu,hl,hr⟩:=cQ (aT s.tmp hx) h1
 have hrun:(execOp a.eval ⟨some i,.box e x,ty,pos,aft,g⟩).run X.P w=.ok (.value (.pointer (some ⟨w.heap.size,0,none⟩))) (w.alloc (.cells us.toArray e)):=by
  simp[execOp,Instr.box,newVar,newRow,hu]
 rw[aG (by simp),hrun,Oper.uponIn_value]
 exact hk _ H _ _ _ _ (nL s hf hN hl hr hc) k
theorem O.alloc {i:Nat}{e:TypeId}{z:Value}(hN:dOk (some i) X.N=true)(hz:∀w,(zeroValue e).run X.P w=.ok z w)(h1:cz (bo z)=true)(hf:am i t σ X.pin=true)
 (hc:(aE (bo z)).any (aP i)=false)(k:K ((i,.box i 0)::t) ((i,.cells (aE (bo z)))::σ)):OpJ X ⟨some i,.alloc e,ty,pos,aft,g⟩ t σ K:=by
 intro γ H a w s next Q' hk
 obtain⟨us,hu,hl,hr⟩:=cQ (bQ γ H z) h1
 have hrun:(execOp a.eval ⟨some i,.alloc e,ty,pos,aft,g⟩).run X.P w=.ok (.value (.pointer (some ⟨w.heap.size,0,none⟩))) (w.alloc (.cells us.toArray e)):=by
  simp[execOp,Instr.alloc,newVar,newRow,hu,hz]
 rw[aG (by simp),hrun,Oper.uponIn_value]
 exact hk _ H _ _ _ _ (nL s hf hN hl hr hc) k
theorem O.store {x y:Operand}{i off n:Nat}{cs cs':List AV}{av v:AV}{e:TypeId}(hx:ge t x=some av)(hbx:gj av=some (i,off))(hy:ge t y=some v)(hi:look i σ=some (.cells cs))(h1:cz v=true)(h2:gp (aE v)=true)
 (hs:∀w,(sizeOf e).run X.P w=.ok n w)(hn:(aE v).length=n)(hl:off+n≤cs.length)(hc:bI cs off (aE v)=cs')(k:K t ((i,.cells cs')::σ)):
 OpJ X ⟨none,.store e x y,ty,pos,aft,g⟩ t σ K:=by
 intro γ H a w s next Q' hk
 have hq:=cR hbx (aT s.tmp hx)
 obtain⟨tt,us,h3,h4,h5⟩:=s.mem.ent i _ hi
 have hrv:=aT s.tmp hy
 obtain⟨vs,hu,hvl,hvr⟩:=cQ hrv h1
 have hone:=xy hvl hvr h2
 obtain⟨w',hw1,hw2,hw3⟩:=gB (P:=X.P) vs w us off 0 h3 (by omega) hone
 have hrun:(execOp a.eval ⟨none,.store e x y,ty,pos,aft,g⟩).run X.P w=.ok .skip w':=by
  have hsz:¬(vs.length≠n):=by omega
  simp only[execOp,Instr.storeAt,Instr.sureAddr,hq,storeVar,hu,Sem.run_bind,Sem.run_pure,Result.andThen_ok,hs]
  simp only[List.size_toArray,if_neg hsz,hw1,Result.andThen_ok]
 rw[aG (by simp),hrun,Oper.uponIn_skip]
 have he:EntOk γ H w' i (.cells cs'):=by
  refine⟨tt,bI us (off+0) vs,hw2,?_,?_⟩
  ·rw[←hc,bV,bV,h4]
  ·rw[←hc]
   simp only[Nat.add_zero]
   exact lw (R:=Rep γ H) _ _ _ _ _ h4 hvl h5 hvr
 exact hk γ H _ _ _ w' (s.turn (d:=none) (V:=.junk) (v:=undef) hi rfl (s.mem.turn (e':=.cells cs') hi rfl hw3 he fun b hb=>hb) rfl (.junk _)) k
theorem Az {x y:Operand}{i off n j l kk:Nat}{xs:List (List D)}{cs:List D}{ds:List D}{av v:AV}{e:TypeId}(hx:ge t x=some av)(hbx:gj av=some (i,off))(hy:ge t y=some v)(hi:look i σ=some (.arr kk xs))(h1:cz v=true)
 (hd:fO (aE v)=some ds)(hj:off=j*kk+l)(hg:xs[j]?=some cs)(hs:∀w,(sizeOf e).run X.P w=.ok n w)(hn:ds.length=n)(hl:l+n≤cs.length)(k:K t ((i,.arr kk (xs.set j (bI cs l ds)))::σ)):
 OpJ X ⟨none,.store e x y,ty,pos,aft,g⟩ t σ K:=by
 intro γ H a w s next Q' hk
 have hq:=cR hbx (aT s.tmp hx)
 obtain⟨hle,hk1,h2⟩:=s.mem.ent i _ hi
 have hjl:j<xs.length:=(List.getElem?_eq_some_iff.1 hg).1
 have hpos:0<(γ i).n:=by omega
 obtain⟨tt,us,h3,h4,h5⟩:=h2 hpos
 have hck:cs.length=kk:=hk1 cs (aQ hg)
 have hrv:=aT s.tmp hy
 obtain⟨vs,hu,hvl,hvr⟩:=cQ hrv h1
 obtain⟨hvd,hvr'⟩:=k8 hd hvl hvr
 have hone:∀v,v∈vs→v.oneCell'=true:=fun v hv=>by
  obtain⟨m,hm,e⟩:=List.getElem_of_mem hv
  exact(ky (hvr' m ds[m] v (by simp[show m<ds.length by omega]) (by simp[←e,hm]))).1
 have hrow:j*kk+kk≤(γ i).n*kk:=by
  calc j*kk+kk=(j+1)*kk:=by rw[Nat.add_mul];omega
   _≤(γ i).n*kk:=Nat.mul_le_mul_right _ (by omega)
 obtain⟨w',hw1,hw2,hw3⟩:=gB (P:=X.P) vs w us off 0 h3 (by omega) hone
 have hrun:(execOp a.eval ⟨none,.store e x y,ty,pos,aft,g⟩).run X.P w=.ok .skip w':=by
  have hsz:¬(vs.length≠n):=by omega
  simp only[execOp,Instr.storeAt,Instr.sureAddr,hq,storeVar,hu,Sem.run_bind,Sem.run_pure,Result.andThen_ok,hs]
  simp only[List.size_toArray,if_neg hsz,hw1,Result.andThen_ok]
 rw[aG (by simp),hrun,Oper.uponIn_skip]
 simp only[Nat.add_zero]at hw2
 have hset:(bI cs l ds).length=kk:=by rw[bV,hck]
 have kw:∀{α:Type}(vs us:List α)(p j:Nat),p+vs.length≤us.length→(bI us p vs)[j]?=if p≤j∧j<p+vs.length then vs[j-p]? else us[j]?:=by
  intro α vs
  induction vs with
  |nil=>intro us p j _;simp only[bI,List.length_nil,Nat.add_zero];rw[if_neg (by omega)]
  |cons v vs ih=>
   intro us p j h
   simp only[List.length_cons]at h
   simp only[bI]
   rw[ih (us.set p v) (p+1) j (by simp;omega)]
   by_cases h1:p+1≤j∧j<p+1+vs.length
   ·rw[if_pos h1,if_pos (by simp;omega)]
    rw[show j-p=(j-(p+1))+1 from by omega];simp
   ·rw[if_neg h1,List.getElem?_set]
    by_cases h2:p=j
    ·subst h2;rw[if_pos rfl,if_pos (by omega),if_pos (by simp)];simp
    ·rw[if_neg h2,if_neg (by simp;omega)]
 have he:EntOk γ H w' i (.arr kk (xs.set j (bI cs l ds))):=by
  refine⟨by simpa using hle,fun c hc=>?_,fun _=>⟨tt,_,hw2,by rw[bV];exact h4,fun j' l' cs' b u ha hb hu=>?_⟩⟩
  ·rcases List.mem_or_eq_of_mem_set hc with h|h
   ·exact hk1 c h
   ·subst h;exact hset
  ·rw[kw vs us off _ (by omega)]at hu
   rw[List.getElem?_set]at ha
   split at ha
   ·next ej=>
    subst ej
    simp only[Option.some.injEq]at ha
    subst ha
    have hlk:l'<kk:=by rw[←hset];exact(List.getElem?_eq_some_iff.1 hb).1
    rw[kw ds cs l l' (by omega)]at hb
    by_cases hin:l≤l'∧l'<l+ds.length
    ·rw[if_pos hin]at hb
     rw[if_pos (by omega)]at hu
     rw[show j*kk+l'-off=l'-l from by omega]at hu
     exact hvr' _ b u hb hu
    ·rw[if_neg hin]at hb
     rw[if_neg (by omega)]at hu
     exact h5 j l' cs b u hg hb hu
   ·next ej=>
    have hlk:l'<kk:=by rw[←hk1 cs' (aQ ha)];exact(List.getElem?_eq_some_iff.1 hb).1
    have:¬(off≤j'*kk+l'∧j'*kk+l'<off+vs.length):=fun h=>by
     rcases Nat.lt_or_gt_of_ne ej with h6|h6
     ·have:(j+1)*kk≤j'*kk:=Nat.mul_le_mul_right _ h6
      rw[Nat.add_mul]at this;omega
     ·have:(j'+1)*kk≤j*kk:=Nat.mul_le_mul_right _ h6
      rw[Nat.add_mul]at this;omega
    rw[if_neg this]at hu
    exact h5 j' l' cs' b u ha hb hu
 exact hk γ H _ _ _ w' (s.turn (d:=none) (V:=.junk) (v:=undef) hi ⟨rfl,hpos⟩ (s.mem.turn (e':=.arr kk (xs.set j (bI cs l ds))) hi ⟨rfl,hpos⟩ hw3 he fun b hb=>hb.1) rfl (.junk _)) k
end
end Go.Gv
end
section
namespace Go.Gv
open Go.RowKit
def OStep (X:Cx)(all:Array Oper)(o:Oper)(t:T)(σ:Sg)(V:AV):Prop:=
 (o.guard=none∧QJ X o t σ V)∨
 (∃j b d,o.guard=some (j,b)∧((all[j]?).bind (·.dst))=some d∧look d t=some (.d (.v (.bool b)))∧QJ X o t σ V)∨
 (∃j b b' d,o.guard=some (j,b)∧((all[j]?).bind (·.dst))=some d∧look d t=some (.d (.v (.bool b')))∧b'≠b∧V=.tup [])∨
 (∃j b d,o.guard=some (j,b)∧((all[j]?).bind (·.dst))=some d∧look d t=some (.tup [])∧V=.tup [])
section
variable {X:Cx} {all:Array Oper} {al:List Oper} {t:T} {σ:Sg} {Q:T→Sg→Prop} {o:Oper}
theorem Wk.put {t t':T}{d:Option Nat}{V:AV}(h:Wk t' t):Wk (putT d V t') (putT d V t):=by
 cases d with
 |none=>exact h
 |some d=>
  intro i a hi
  simp only[putT,ae]at hi ⊢
  split
  ·next e=>rw[if_pos e]at hi;exact hi
  ·next e=>rw[if_neg e]at hi;exact h i a hi
theorem OStep.wk {t t':T}{V:AV}(hw:Wk t' t)(h:OStep X all o t' σ V):OStep X all o t σ V:=by
 rcases h with⟨h1,h2⟩|⟨j,b,d,h1,h2,h3,h4⟩|⟨j,b,b',d,h1,h2,h3,h4,h5⟩|⟨j,b,d,h1,h2,h3,h4⟩
 ·exact .inl ⟨h1,h2.wk hw (Wk.refl _)⟩
 ·exact .inr (.inl ⟨j,b,d,h1,h2,hw _ _ h3,h4.wk hw (Wk.refl _)⟩)
 ·exact .inr (.inr (.inl ⟨j,b,b',d,h1,h2,hw _ _ h3,h4,h5⟩))
 ·exact .inr (.inr (.inr ⟨j,b,d,h1,h2,hw _ _ h3,h4⟩))
end
def hasT (x:Nat):Operand→Bool
 |.tmp i=>Nat.beq i x
 |_=>false
def aB (all:Array Oper)(o:Oper)(x:Nat):Bool:=
 (match o.dst with|some d=>Nat.beq d x|none=>false)||o.op.operands.toList.any (hasT x)||
  (match o.guard with|some (j,_)=>(match(all[j]?).bind (·.dst)with|some d=>Nat.beq d x|none=>false)|none=>false)
def cb (o:Oper)(j:Nat):Bool:=o.after.toList.any fun e=>Nat.beq e.on j&&Region.binds .any e
def aY (all:Array Oper)(i:Nat):Option Nat:=(all[i]?).bind (·.dst)
def oP (all:Array Oper)(m:Nat):Bool:=
 (List.range all.size).all fun j=>match all[j]? with
  |none=>true
  |some o=>o.after.all (fun e=>!Region.binds .any e||Nat.blt e.on j)&&(Nat.blt j m||(List.range j).all fun i=>cb o i||(Nat.blt i m&&(List.range j).any fun x=>cb o x&&(match all[x]? with|some p=>cb p i|none=>false)))&&
   (List.range j).all fun i=>match all[i]? with
    |none=>true
    |some p=>cb o i||((match p.dst with|some x=>!aB all o x|none=>true)&&(match o.dst with|some x=>!aB all p x|none=>true))
section any
variable {all:Array Oper} {m:Nat}
theorem lb (h:oP all m=true){j:Nat}{o:Oper}(ho:all[j]?=some o):(∀e,e∈o.after→Region.binds .any e=true→e.on<j)∧(m≤j→∀i,i<j→cb o i=true∨(i<m∧∃x p,all[x]?=some p∧cb o x=true∧cb p i=true))∧
 ∀i p,i<j→all[i]?=some p→cb o i=true∨((∀x,p.dst=some x→aB all o x=false)∧∀x,o.dst=some x→aB all p x=false):=by
 have hj:j<all.size:=(Array.getElem?_eq_some_iff.1 ho).1
 have h1:=(List.all_eq_true.1 h) j (List.mem_range.2 hj)
 simp only[ho,Bool.and_eq_true]at h1
 obtain⟨⟨h2,h3⟩,h4⟩:=h1
 refine⟨fun e he hb=>?_,fun hm i hi=>?_,fun i p hi hp=>?_⟩
 ·have:=(Array.all_eq_true_iff_forall_mem.1 h2) e he
  simp only[hb,Bool.not_true,Bool.false_or,Nat.blt_eq]at this
  exact this
 ·rcases Bool.or_eq_true_iff.1 h3 with h5|h5
  ·simp only[Nat.blt_eq]at h5;omega
  ·have h6:=List.all_eq_true.1 h5 i (List.mem_range.2 hi)
   simp only[Bool.or_eq_true,Bool.and_eq_true,Nat.blt_eq,List.any_eq_true]at h6
   rcases h6 with h6|⟨h6,x,_,h7,h8⟩
   ·exact .inl h6
   ·split at h8
    ·next p hp=>exact .inr ⟨h6,x,p,hp,h7,h8⟩
    ·cases h8
 ·have h5:=List.all_eq_true.1 h4 i (List.mem_range.2 hi)
  simp only[hp]at h5
  rcases Bool.or_eq_true_iff.1 h5 with h6|h6
  ·exact .inl h6
  ·refine .inr ?_
   simp only[Bool.and_eq_true]at h6
   refine⟨fun x hx=>?_,fun x hx=>?_⟩
   ·have:=h6.1;simp only[hx]at this;simpa using this
   ·have:=h6.2;simp only[hx]at this;simpa using this
inductive Anc (all:Array Oper):Nat→Nat→Prop where
 |one {j i:Nat} {o:Oper} (ho:all[j]?=some o) (h:cb o i=true):Anc all j i
 |step {j x i:Nat} {o:Oper} (ho:all[j]?=some o) (h:cb o x=true) (k:Anc all x i):Anc all j i
structure CalmR (all:Array Oper)(m:Nat):Prop where
 back:∀j o,all[j]?=some o→∀e,e∈o.after→Region.binds .any e=true→e.on<j
 tail:∀j o,all[j]?=some o→m≤j→∀i,i<m→Anc all j i
 names:∀j o,j<m→all[j]?=some o→∀i p,i<j→all[i]?=some p→cb o i=true∨((∀x,p.dst=some x→aB all o x=false)∧∀x,o.dst=some x→aB all p x=false)
theorem zS (h:oP all m=true):CalmR all m where
 back:=fun j o ho=>(lb h ho).1
 tail:=fun j o ho hm i hi=>by
  rcases(lb h ho).2.1 hm i (by omega)with h5|⟨_,x,p,hp,h5,h6⟩
  ·exact .one ho h5
  ·exact .step ho h5 (.one hp h6)
 names:=fun j o _ ho i p hi hp=>(lb h ho).2.2 i p hi hp
def qU (all:Array Oper)(j i:Nat):Bool:=match all[j]? with
 |some o=>cb o i
 |none=>false
def xF (all:Array Oper):Nat→Nat→Nat→Bool
 |0,_,_=>false
 |n+1,j,i=>qU all j i||(List.range j).any fun x=>qU all j x&&xF all n x i
theorem ka:∀(n j i:Nat),xF all n j i=true→Anc all j i
 |0,_,_,h=>by simp[xF]at h
 |n+1,j,i,h=>by
  simp only[xF,Bool.or_eq_true,List.any_eq_true,Bool.and_eq_true]at h
  rcases h with h|⟨x,_,h1,h2⟩
  ·unfold qU at h
   split at h
   ·next o ho=>exact .one ho h
   ·cases h
  ·unfold qU at h1
   split at h1
   ·next o ho=>exact .step ho h1 (ka n x i h2)
   ·cases h1
def oR (all:Array Oper)(m:Nat):Bool:=
 (List.range all.size).all fun j=>match all[j]? with
  |none=>true
  |some o=>o.after.all (fun e=>!Region.binds .any e||Nat.blt e.on j)&&(Nat.blt j m||(List.range m).all fun i=>xF all 24 j i)&&
   (!Nat.blt j m||(List.range j).all fun i=>match all[i]? with
    |none=>true
    |some p=>cb o i||((match p.dst with|some x=>!aB all o x|none=>true)&&(match o.dst with|some x=>!aB all p x|none=>true)))
theorem oQ (h:oR all m=true):CalmR all m:=by
 have at':∀j o,all[j]?=some o→_:=fun j o ho=>by
  have hj:j<all.size:=(Array.getElem?_eq_some_iff.1 ho).1
  have h1:=(List.all_eq_true.1 h) j (List.mem_range.2 hj)
  simp only[ho,Bool.and_eq_true]at h1
  exact h1
 refine⟨fun j o ho e he hb=>?_,fun j o ho hm i hi=>?_,fun j o hjm ho i p hi hp=>?_⟩
 ·obtain⟨⟨h2,h3⟩,h4⟩:=at' j o ho
  have:=(Array.all_eq_true_iff_forall_mem.1 h2) e he
  simp only[hb,Bool.not_true,Bool.false_or,Nat.blt_eq]at this
  exact this
 ·obtain⟨⟨h2,h3⟩,h4⟩:=at' j o ho
  rcases Bool.or_eq_true_iff.1 h3 with h5|h5
  ·simp only[Nat.blt_eq]at h5;omega
  ·exact ka _ _ _ (List.all_eq_true.1 h5 i (List.mem_range.2 hi))
 ·obtain⟨⟨h2,h3⟩,h4⟩:=at' j o ho
  rcases Bool.or_eq_true_iff.1 h4 with h5|h5
  ·have:Nat.blt j m=true:=by simpa using hjm
   rw[this]at h5;cases h5
  ·have h5:=List.all_eq_true.1 h5 i (List.mem_range.2 hi)
   simp only[hp]at h5
   rcases Bool.or_eq_true_iff.1 h5 with h6|h6
   ·exact .inl h6
   ·refine .inr ?_
    simp only[Bool.and_eq_true]at h6
    refine⟨fun x hx=>?_,fun x hx=>?_⟩
    ·have:=h6.1;simp only[hx]at this;simpa using this
    ·have:=h6.2;simp only[hx]at this;simpa using this
theorem bb {o:Oper}{j:Nat}{listed:Array Bool}(he:cb o j=true)(hr:∀e,e∈o.after→Region.binds .any e=true→listed.getD e.on false=true):listed.getD j false=true:=by
 simp only[cb,List.any_eq_true]at he
 obtain⟨e,hm,hb⟩:=he
 rw[Array.mem_toList_iff]at hm
 simp only[Bool.and_eq_true,Nat.beq_eq]at hb
 obtain⟨rfl,hb2⟩:=hb
 exact hr e hm hb2
theorem iy {listed:Array Bool}(hcl:∀i o,listed.getD i false=true→all[i]?=some o→∀e,e∈o.after→Region.binds .any e=true→listed.getD e.on false=true){j i:Nat}(h:Anc all j i):
 ∀{o:Oper},all[j]?=some o→(∀e,e∈o.after→Region.binds .any e=true→listed.getD e.on false=true)→listed.getD i false=true:=by
 induction h with
 |one ho' h=>intro o ho hr;rw[ho]at ho';cases ho';exact bb h hr
 |step ho' h k ih=>
  intro o ho hr
  rw[ho]at ho';cases ho'
  have hx:=bb h hr
  cases k with
  |one hp h2=>exact ih hp (hcl _ _ hx hp)
  |step hp h2 k2=>exact ih hp (hcl _ _ hx hp)
def bB (all:Array Oper)(S:Nat→Bool)(x:Nat):Nat→Option Nat
 |0=>none
 |k+1=>if S k=true∧aY all k=some x then some k else bB all S x k
theorem aA {S S':Nat→Bool}{x:Nat}:∀k,(∀j,j<k→aY all j=some x→S j=S' j)→bB all S x k=bB all S' x k
 |0,_=>rfl
 |k+1,h=>by
  simp only[bB]
  rw[aA k (fun j hj=>h j (by omega))]
  by_cases hd:aY all k=some x
  ·rw[h k (by omega) hd]
  ·simp[hd]
theorem cV {x:Nat}{i:Nat}:∀k,i≤k→bB all (fun j=>decide (j<i)) x k=bB all (fun _=>true) x i
 |0,h=>by obtain rfl:i=0:=by omega
          rfl
 |k+1,h=>by
  by_cases e:i=k+1
  ·subst e
   exact aA _ fun j hj _=>by simp[hj]
  ·simp only[bB]
   rw[if_neg (by simp;omega),cV k (by omega)]
theorem fA {S:Nat→Bool}{x:Nat}:∀k j,bB all S x k=some j→j<k∧S j=true∧aY all j=some x
 |0,j,h=>by simp[bB]at h
 |k+1,j,h=>by
  simp only[bB]at h
  split at h
  ·next hc=>simp only[Option.some.injEq]at h;subst h;exact⟨by omega,hc.1,hc.2⟩
  ·obtain⟨h1,h2,h3⟩:=fA k j h;exact⟨by omega,h2,h3⟩
def aN (all:Array Oper)(V:Nat→AV)(t0:T)(S:Nat→Bool)(k x:Nat):Option AV:=
 match bB all S x k with
 |some j=>some (V j)
 |none=>look x t0
def aM (all:Array Oper)(V:Nat→AV)(t0:T):Nat→T
 |0=>t0
 |k+1=>putT (aY all k) (V k) (aM all V t0 k)
theorem bu (V:Nat→AV)(t0:T)(x:Nat):∀k,look x (aM all V t0 k)=aN all V t0 (fun _=>true) k x
 |0=>rfl
 |k+1=>by
  have ih:=bu V t0 x k
  simp only[aM,aN,bB,true_and]
  cases hd:aY all k with
  |none=>simpa[putT,aN]using ih
  |some d=>
   simp only[putT,ae,Option.some.injEq]
   by_cases e:x=d
   ·subst e;simp
   ·rw[if_neg e,if_neg (fun h=>e h.symm),ih];rfl
def mE (γ:Ids)(H:HF)(f:Nat→Option AV)(tm:Array Value):Prop:=∀i a,f i=some a→∃u,tm[i]?=some u∧Rep γ H a u
theorem dz {md:Region.Mode}{listed:Array Bool}{i:Nat}(h:i∈Region.ready md all listed):listed.getD i true=false∧∃o,all[i]?=some o∧∀e,e∈o.after→Region.binds md e=true→listed.getD e.on false=true:=mem_ready.1 h
theorem jA {listed:Array Bool}{i:Nat}(h:listed.getD i true=false):i<listed.size∧listed.getD i false=false:=by
 rw[Array.getD_eq_getD_getElem?]at h ⊢
 cases hx:listed[i]? with
 |none=>rw[hx]at h;simp at h
 |some b=>rw[hx]at h;simp at h;subst h;exact⟨(Array.getElem?_eq_some_iff.1 hx).1,rfl⟩
end any
theorem kl {F:Fence}{n:Nat}{P:Program}{all:Array Oper}{m:Nat}{Q:Exit→Act→World→Prop}(hc:oP all m=true):∀(fuel k:Nat)(listed:Array Bool)(a:Act)(w:World),m≤k→k+fuel=all.size→listed.size=all.size→
 (∀j,j<all.size→listed.getD j false=decide (j<k))→wpOpsIn F n P all Q (List.range' k fuel) a w→wpAnyIn F n P .any all Q fuel listed a w
 |0,k,listed,a,w,hm,hk,hs,hl,h=>by
  refine⟨?_,by simpa[wpOpsIn]using h⟩
  rw[List.eq_nil_iff_forall_not_mem]
  intro i hi
  obtain⟨h1,o,ho,_⟩:=dz hi
  have:=hl i (Array.getElem?_eq_some_iff.1 ho).1
  have hi':=(jA h1).2
  rw[hi']at this
  have hlt:=(Array.getElem?_eq_some_iff.1 ho).1
  simp at this;omega
 |fuel+1,k,listed,a,w,hm,hk,hs,hl,h=>by
  have hkn:k<all.size:=by omega
  have hready:∀i,i∈Region.ready .any all listed→i=k:=by
   intro i hi
   obtain⟨h1,o,ho,h2⟩:=dz hi
   have hlt:=(Array.getElem?_eq_some_iff.1 ho).1
   have h3:=hl i hlt
   rw[(jA h1).2]at h3
   have h4:¬i<k:=by simpa using h3.symm
   by_cases e:i=k
   ·exact e
   ·have h5:cb o k=true:=by
     rcases(lb hc ho).2.1 (by omega) k (by omega)with h5|⟨h5,_⟩
     ·exact h5
     ·omega
    have h6:=bb h5 h2
    rw[hl k hkn]at h6
    simp at h6
  rw[List.range'_succ,wpOpsIn_cons]at h
  refine⟨fun hn=>?_,fun i hi=>?_⟩
  ·exfalso
   have hmem:k∈Region.ready .any all listed:=by
    rw[mem_ready]
    refine⟨?_,all[k],by simp[hkn],fun e he hb=>?_⟩
    ·have:=hl k hkn
     simp only[Nat.lt_irrefl,decide_false]at this
     rw[Array.getD_eq_getD_getElem?]at this ⊢
     rw[Array.getElem?_eq_getElem (by omega)]at this ⊢
     simpa using this
    ·have:=(lb hc (j:=k) (o:=all[k]) (by simp[hkn])).1 e he hb
     rw[hl _ (by omega)];simpa using this
   rw[hn]at hmem;cases hmem
  ·obtain rfl:=hready i hi
   refine wpOpIn_mono (fun a w hw=>?_) h
   refine kl hc fuel (i+1) _ a w (by omega) (by omega) (by simpa using hs) (fun j hj=>?_) hw
   by_cases e:i=j
   ·subst e
    rw[Array.getD_eq_getD_getElem?];simp[hs,hkn]
   ·rw[getD_set_ne false e,hl j hj]
    simp;omega
def aC (all:Array Oper)(V:Nat→AV)(t:T)(k:Nat):Nat→T
 |0=>t
 |j+1=>putT (aY all (k+j)) (V (k+j)) (aC all V t k j)
theorem cg {all:Array Oper}{V V':Nat→AV}{t:T}{k:Nat}:∀j,(∀i,k≤i→i<k+j→V i=V' i)→aC all V t k j=aC all V' t k j
 |0,_=>rfl
 |j+1,h=>by
  simp only[aC]
  rw[h (k+j) (by omega) (by omega),cg j (fun i h1 h2=>h i h1 (by omega))]
theorem ct {all:Array Oper}{V:Nat→AV}{t:T}{k:Nat}:∀j,aC all V t k (j+1)=aC all V (putT (aY all k) (V k) t) (k+1) j
 |0=>rfl
 |j+1=>by
  rw[aC,ct j,aC]
  rw[show k+(j+1)=k+1+j from by omega]
theorem bl {all:Array Oper}{V:Nat→AV}{t:T}:∀j,aC all V t 0 j=aM all V t j
 |0=>rfl
 |j+1=>by simp only[aC,aM,Nat.zero_add,bl j]
def au (E:Nat→Option (Nat×Ent))(S:Nat→Bool)(σ:Sg):Nat→Sg
 |0=>σ
 |k+1=>match E k with
  |some p=>if S k=true then p::au E S σ k else au E S σ k
  |none=>au E S σ k
theorem aI {E:Nat→Option (Nat×Ent)}{S S':Nat→Bool}{σ:Sg}:∀k,(∀j,j<k→E j≠none→S j=S' j)→au E S σ k=au E S' σ k
 |0,_=>rfl
 |k+1,h=>by
  simp only[au]
  rw[aI k fun j hj=>h j (by omega)]
  cases hE:E k with
  |none=>rfl
  |some p=>simp only[h k (by omega) (by rw[hE];exact fun h=>by cases h)]
theorem fK {E:Nat→Option (Nat×Ent)}{S:Nat→Bool}{σ:Sg}{p:Nat×Ent}:∀k,p∈au E S σ k→p∈σ∨∃j,j<k∧S j=true∧E j=some p
 |0,h=>.inl h
 |k+1,h=>by
  have up:p∈au E S σ k→p∈σ∨∃j,j<k+1∧S j=true∧E j=some p:=fun h=>by
   rcases fK k h with h|⟨j,h1,h2⟩
   ·exact .inl h
   ·exact .inr ⟨j,by omega,h2⟩
  simp only[au]at h
  cases hE:E k with
  |none=>rw[hE]at h;exact up h
  |some q=>
   rw[hE]at h
   simp only at h
   split at h
   ·next hs=>
    rcases List.mem_cons.1 h with rfl|h
    ·exact .inr ⟨k,by omega,hs,hE⟩
    ·exact up h
   ·exact up h
theorem cL {E:Nat→Option (Nat×Ent)}{S:Nat→Bool}{σ:Sg}(hd:∀i j x e f,E i=some (x,e)→E j=some (x,f)→i=j){i x:Nat}{e:Ent}:∀k,i<k→S i=true→E i=some (x,e)→look x (au E S σ k)=some e
 |0,h,_,_=>by omega
 |k+1,h,hs,hE=>by
  by_cases hik:i=k
  ·subst hik
   simp only[au,hE,hs,if_true,ae]
  ·have ih:=cL (σ:=σ) hd k (by omega) hs hE
   simp only[au]
   cases hk:E k with
   |none=>exact ih
   |some q=>
    simp only
    split
    ·obtain⟨y,f⟩:=q
     rw[ae,if_neg (fun h=>hik (by subst h;exact hd i k _ _ _ hE hk))]
     exact ih
    ·exact ih
theorem d9 {E:Nat→Option (Nat×Ent)}{S:Nat→Bool}{σ:Sg}{x:Nat}{a:Ent}(hx:look x σ=some a)(hn:∀i y e,E i=some (y,e)→y≠x):∀k,look x (au E S σ k)=some a
 |0=>hx
 |k+1=>by
  have ih:=d9 (S:=S) hx hn k
  simp only[au]
  cases hk:E k with
  |none=>exact ih
  |some q=>
   simp only
   split
   ·obtain⟨y,f⟩:=q
    rw[ae,if_neg (fun h=>hn k y f hk h.symm)]
    exact ih
   ·exact ih
theorem eg {E:Nat→Option (Nat×Ent)}{S:Nat→Bool}{σ:Sg}{x:Nat}{f:Ent}:∀k,look x (au E S σ k)=some f→(∃j,j<k∧S j=true∧E j=some (x,f))∨look x σ=some f
 |0,h=>.inr h
 |k+1,h=>by
  have up:look x (au E S σ k)=some f→(∃j,j<k+1∧S j=true∧E j=some (x,f))∨look x σ=some f:=fun h=>by
   rcases eg k h with⟨j,h1,h2⟩|h
   ·exact .inl ⟨j,by omega,h2⟩
   ·exact .inr h
  simp only[au]at h
  cases hE:E k with
  |none=>rw[hE]at h;exact up h
  |some q=>
   rw[hE]at h
   simp only at h
   split at h
   ·next hs=>
    obtain⟨y,e⟩:=q
    rw[ae]at h
    split at h
    ·next e'=>
     simp only[Option.some.injEq]at h;subst h;subst e'
     exact .inl ⟨k,by omega,hs,hE⟩
    ·exact up h
   ·exact up h
def NewJ (X:Cx)(o:Oper)(t:T)(cs:List AV):Prop:=
 ∀(γ:Ids)(H:HF)(a:Act)(w:World),(∀x,x∈o.op.operands→∀v,ge t x=some v→Rep γ H v (a.eval x))→
  ∃(us:List Value)(e:TypeId),(o.semAt X.ro a.eval).run X.P w=.ok (.value (.pointer (some ⟨w.heap.size,0,none⟩))) (w.alloc (.cells us.toArray e))∧us.length=cs.length∧∀(j:Nat)(x:AV)(u:Value),cs[j]?=some x→us[j]?=some u→Rep γ H x u
def BirthJ (X:Cx)(o:Oper)(t:T)(σ:Sg)(id:Nat)(V:AV)(e:Ent):Prop:=
 ∀(γ:Ids)(H:HF)(a:Act)(w:World),(∀x,x∈o.op.operands→∀v,ge t x=some v→Rep γ H v (a.eval x))→Mem X.w0 X.H0 X.B γ H σ w→
  ∃(v:Value)(n:Nat)(w':World),(o.semAt X.ro a.eval).run X.P w=.ok (.value v) w'∧Mem w H (fun _=>False) (upd γ id ⟨w.heap.size,n,fun _=>False⟩) H [(id,e)] w'∧Rep (upd γ id ⟨w.heap.size,n,fun _=>False⟩) H V v
def wn (X:Cx)(all:Array Oper)(o:Oper)(t:T)(σ:Sg)(V:AV)(E:Option (Nat×Ent)):Prop:=
 (E=none∧OStep X all o t σ V)∨
 (∃id e,o.guard=none∧BirthJ X o t σ id V e∧E=some (id,e))
theorem BirthJ.wk {X:Cx}{o:Oper}{t t':T}{σ:Sg}{id:Nat}{V:AV}{e:Ent}(hw:Wk t' t)(h:BirthJ X o t' σ id V e):BirthJ X o t σ id V e:=
 fun γ H a w so sm=>h γ H a w (fun x hx v hv=>so x hx v (by
  cases x with
  |tmp i=>exact hw i v hv
  |const c=>exact hv
  |func f=>exact hv
  |global g=>exact hv)) sm
theorem NewJ.birth {X:Cx}{o:Oper}{t:T}{σ:Sg}{id:Nat}{cs:List AV}(h:NewJ X o t cs)(hc:cs.any (aP id)=false):BirthJ X o t σ id (.box id 0) (.cells cs):=fun γ H a w so sm=>by
 obtain⟨us,e,hrun,hl,hr⟩:=h γ H a w so
 refine⟨_,0,_,hrun,sm.new id (.cells cs) (.cells us.toArray e) 0 ⟨e,us,?_,hl,fun j x u hx hu=>js (hr j x u hx hu) (q8 hc hx)⟩ (fun _ _ h=>by cases h),?_⟩
 ·rw[ap];exact World.alloc_heap_new w _
 ·have:=Rep.box (γ:=upd γ id ⟨w.heap.size,0,fun _=>False⟩) (H:=H) id 0
  rw[ap]at this;exact this
theorem NewJ.wk {X:Cx}{o:Oper}{t t':T}{cs:List AV}(hw:Wk t' t)(h:NewJ X o t' cs):NewJ X o t cs:=
 fun γ H a w so=>h γ H a w fun x hx v hv=>so x hx v (by
  cases x with
  |tmp i=>exact hw i v hv
  |const c=>exact hv
  |func f=>exact hv
  |global g=>exact hv)
theorem dm {X:Cx}{γ:Ids}{H:HF}{t:T}{σ:Sg}{a:Act}{w:World}(s:St X γ H [] σ a w)(h:TmpOk γ H t a.tmps):St X γ H t σ a w:=⟨s.lam,s.round,s.defers,s.size,s.pinned,h,s.mem⟩
theorem xE {X:Cx}{all:Array Oper}{m:Nat}{t0:T}{σ:Sg}{V:Nat→AV}{E:Nat→Option (Nat×Ent)}{Q':Exit→Act→World→Prop}(hc:CalmR all m)(hm:m≤all.size)
 (hstep:∀i o,i<m→all[i]?=some o→wn X all o (aM all V t0 i) σ (V i) (E i)∧dOk o.dst X.N=true)
 (hfr:∀i id e,E i=some (id,e)→am id t0 σ X.pin=true∧(∀j x,j<m→j≠i→aY all j=some x→aP id (V j)=false)∧∀j id' e',j≠i→E j=some (id',e')→id'≠id∧aJ id e'=false)
 (hend:∀γ H a w listed,St X γ H (aM all V t0 m) (au E (fun _=>true) σ m) a w→listed.size=all.size→(∀j,j<all.size→listed.getD j false=decide (j<m))→wpAnyIn (Fr X.ro) 0 X.P .any all Q' (all.size-m) listed a w):
 ∀(fuel:Nat)(listed:Array Bool)(γ:Ids)(H:HF)(a:Act)(w:World),listed.size=all.size→
  (∀j,m≤j→listed.getD j false=false)→(∀i o,listed.getD i false=true→all[i]?=some o→∀e,e∈o.after→Region.binds .any e=true→listed.getD e.on false=true)→
  ((List.range m).filter fun j=>!listed.getD j false).length+(all.size-m)=fuel→
  mE γ H (aN all V t0 (fun j=>listed.getD j false) m) a.tmps→St X γ H [] (au E (fun j=>listed.getD j false) σ m) a w→
  wpAnyIn (Fr X.ro) 0 X.P .any all Q' fuel listed a w:=by
 intro fuel
 induction fuel with
 |zero=>
  intro listed γ H a w hs htail hclosed hcount htab sst
  have hall:∀j,j<m→listed.getD j false=true:=fun j hj=>by
   have h0:((List.range m).filter fun j=>!listed.getD j false)=[]:=List.length_eq_zero_iff.1 (by omega)
   have:=List.filter_eq_nil_iff.1 h0 j (List.mem_range.2 hj)
   simpa using this
  have hmn:m=all.size:=by omega
  have hst:St X γ H (aM all V t0 m) (au E (fun _=>true) σ m) a w:=dm (by have h9:=sst;rw[aI (S':=fun _=>true) m (fun j hj _=>hall j hj)]at h9;exact h9) (fun i b hi=>htab i b (by
   rw[bu]at hi
   rw[←hi]
   simp only[aN]
   rw[aA m (fun j hj _=>hall j hj)]))
  have:=hend γ H a w listed hst hs (fun j hj=>by rw[hall j (by omega)];simp;omega)
  rw[show all.size-m=0 from by omega]at this;exact this
 |succ fuel ih=>
  intro listed γ H a w hs htail hclosed hcount htab sst
  by_cases hall:∀j,j<m→listed.getD j false=true
  ·
   have hst:St X γ H (aM all V t0 m) (au E (fun _=>true) σ m) a w:=dm (by have h9:=sst;rw[aI (S':=fun _=>true) m (fun j hj _=>hall j hj)]at h9;exact h9) (fun i b hi=>htab i b (by
    rw[bu]at hi
    rw[←hi]
    simp only[aN]
    rw[aA m (fun j hj _=>hall j hj)]))
   have h0:((List.range m).filter fun j=>!listed.getD j false)=[]:=List.filter_eq_nil_iff.2 fun j hj=>by simp only[hall j (List.mem_range.1 hj)];simp
   rw[h0]at hcount
   simp only[List.length_nil,Nat.zero_add]at hcount
   have:=hend γ H a w listed hst hs (fun j hj=>by
    by_cases hj':j<m
    ·rw[hall j hj'];simp[hj']
    ·rw[htail j (by omega)];simp;omega)
   rw[hcount]at this
   exact this
  ·refine⟨fun hn=>?_,fun i hi=>?_⟩
   ·
    exfalso
    have hex:∃j,j<m∧listed.getD j false=false:=by
     refine Classical.byContradiction fun hno=>hall fun j hj=>?_
     cases hx:listed.getD j false with
     |true=>rfl
     |false=>exact absurd ⟨j,hj,hx⟩ hno
    have hmin:∃j,j<m∧listed.getD j false=false∧∀i,i<j→listed.getD i false=true:=by
     obtain⟨j,hj⟩:=hex
     induction j using Nat.strongRecOn with
     |_ j ihj=>
      by_cases hlow:∀i,i<j→listed.getD i false=true
      ·exact⟨j,hj.1,hj.2,hlow⟩
      ·have:∃i,i<j∧listed.getD i false=false:=by
        refine Classical.byContradiction fun hno=>hlow fun i hi=>?_
        cases hx:listed.getD i false with
        |true=>rfl
        |false=>exact absurd ⟨i,hi,hx⟩ hno
       obtain⟨i,hi,hx⟩:=this
       exact ihj i hi ⟨by omega,hx⟩
    obtain⟨j,hj,hjl,hlow⟩:=hmin
    have hjn:j<all.size:=by omega
    have hmem':j∈Region.ready .any all listed:=by
     rw[mem_ready]
     refine⟨?_,all[j],by simp[hjn],fun e he hb=>hlow _ (hc.back j all[j] (by simp[hjn]) e he hb)⟩
     rw[Array.getD_eq_getD_getElem?]at hjl ⊢
     rw[Array.getElem?_eq_getElem (by omega)]at hjl ⊢
     simpa using hjl
    rw[hn]at hmem';cases hmem'
   ·obtain⟨h1,o,ho,h2⟩:=dz hi
    obtain⟨hil,hif⟩:=jA h1
    have hin:i<all.size:=(Array.getElem?_eq_some_iff.1 ho).1
    have him:i<m:=by
     refine Classical.byContradiction fun hge=>hall fun j hj=>?_
     exact iy hclosed (hc.tail i o ho (by omega) j hj) ho h2
    have hwr:∀x,aB all o x=true→∀j,j<m→aY all j=some x→listed.getD j false=decide (j<i):=by
     intro x hx j hj hd'
     cases hp:all[j]? with
     |none=>simp[aY,hp]at hd'
     |some p=>
      simp only[aY,hp,Option.bind_some]at hd'
      by_cases hji:j<i
      ·rcases hc.names i o him ho j p hji hp with h3|⟨h3,_⟩
       ·rw[bb h3 h2];simp[hji]
       ·rw[h3 x hd']at hx;cases hx
      ·by_cases e:j=i
       ·subst e;rw[hif];simp
       ·rcases hc.names j p hj hp i o (by omega) ho with h3|⟨_,h3⟩
        ·cases hlj:listed.getD j false with
         |false=>simp;omega
         |true=>
          have:=bb h3 (hclosed j p hlj hp)
          rw[hif]at this;cases this
        ·rw[h3 x hd']at hx;cases hx
    have htab_i:∀x,aB all o x=true→aN all V t0 (fun j=>listed.getD j false) m x=look x (aM all V t0 i):=by
     intro x hx
     rw[bu]
     simp only[aN]
     rw[aA m (fun j hj hd'=>hwr x hx j hj hd'),cV m (by omega)]
    have hopnd:∀x,x∈o.op.operands→∀v,ge (aM all V t0 i) x=some v→Rep γ H v (a.eval x):=by
     intro x hx v hv
     cases x with
     |tmp y=>
      have hy:aB all o y=true:=by
       simp only[aB,Bool.or_eq_true]
       exact .inl (.inr (List.any_eq_true.2 ⟨_,Array.mem_toList_iff.2 hx,by simp[hasT]⟩))
      obtain⟨u,hu,hr⟩:=htab y v (by rw[htab_i y hy];exact hv)
      simp only[Act.eval,Array.getD_eq_getD_getElem?,hu,Option.getD_some]
      exact hr
     |const c=>simp only[ge,Option.some.injEq]at hv;subst hv;exact bQ γ H c
     |func f=>simp only[ge,Option.some.injEq]at hv;subst hv;exact .d _ _ (.fn f [] [] rfl (fun j a u h1=>by simp at h1))
     |global g=>simp[ge]at hv
    obtain⟨hos,hdok⟩:=hstep i o him ho
    have hnextG:∀v γ' H' w',mE γ' H' (aN all V t0 (fun j=>listed.getD j false) m) a.tmps→Rep γ' H' (V i) v→
     St X γ' H' [] (au E (fun j=>(listed.setIfInBounds i true).getD j false) σ m) (a.put o.dst v) w'→wpAnyIn (Fr X.ro) 0 X.P .any all Q' fuel (listed.setIfInBounds i true) (a.put o.dst v) w':=by
     intro v γ' H' w' htab' hr sst'
     refine ih _ γ' H' _ w' (by simpa using hs) (fun j hj=>?_) (fun j p hj hp e he hb=>?_) ?_ ?_ sst'
     ·rw[getD_set_ne false (by omega)];exact htail j hj
     ·by_cases e':i=j
      ·subst e'
       rw[ho]at hp;simp only[Option.some.injEq]at hp;subst hp
       exact getD_set_true (h2 e he hb)
      ·rw[getD_set_ne false e']at hj
       exact getD_set_true (hclosed j p hj hp e he hb)
     ·have hf:((List.range m).filter fun j=>!listed.getD j false).length=((List.range m).filter fun j=>!(listed.setIfInBounds i true).getD j false).length+1:=by
       have h5:∀(l:List Nat),l.Nodup→i∈l→(l.filter fun j=>!listed.getD j false).length=(l.filter fun j=>!(listed.setIfInBounds i true).getD j false).length+1:=by
        intro l
        induction l with
        |nil=>intro _ h;cases h
        |cons b l ihl=>
         intro hnd hmem'
         rw[List.nodup_cons]at hnd
         by_cases e:i=b
         ·subst e
          have h6:(listed.setIfInBounds i true).getD i false=true:=by
           rw[Array.getD_eq_getD_getElem?];simp[hil]
          have h7:(l.filter fun j=>!listed.getD j false)=(l.filter fun j=>!(listed.setIfInBounds i true).getD j false):=by
           refine List.filter_congr fun j hj=>?_
           have hne:i≠j:=fun e=>hnd.1 (e▸hj)
           rw[getD_set_ne false hne]
          simp only[List.filter_cons,hif,h6,Bool.not_false,Bool.not_true,if_true,h7,List.length_cons,Bool.false_eq_true,if_false]
         ·have h6:=getD_set_ne (listed:=listed) false e
          have h7:=ihl hnd.2 (by rcases List.mem_cons.1 hmem' with h|h;exact absurd h e;exact h)
          simp only[List.filter_cons,h6]
          split<;>simp only[List.length_cons,h7]
       exact h5 _ List.nodup_range (List.mem_range.2 him)
      omega
     ·
      intro x b hx
      by_cases hxd:o.dst=some x
      ·have hlw:aN all V t0 (fun j=>(listed.setIfInBounds i true).getD j false) m x=some (V i):=by
        have hnx:aB all o x=true:=by simp[aB,hxd]
        simp only[aN]
        have:bB all (fun j=>(listed.setIfInBounds i true).getD j false) x m=bB all (fun j=>decide (j<i+1)) x m:=by
         refine aA m fun j hj hd'=>?_
         by_cases e:i=j
         ·subst e;rw[Array.getD_eq_getD_getElem?];simp[hil]
         ·show(listed.setIfInBounds i true).getD j false=_
          rw[getD_set_ne false e,hwr x hnx j hj hd']
          simp;omega
        rw[this,cV m (by omega)]
        have hda:aY all i=some x:=by simp[aY,ho,hxd]
        simp[bB,hda]
       rw[hlw]at hx
       simp only[Option.some.injEq]at hx
       subst hx
       have hlt:x<a.tmps.size:=by have:=sst.size;rw[hxd]at hdok;simp only[dOk,Nat.blt_eq]at hdok;omega
       exact⟨v,by rw[hxd];simp[Act.put,hlt],hr⟩
      ·have hlw:aN all V t0 (fun j=>(listed.setIfInBounds i true).getD j false) m x=aN all V t0 (fun j=>listed.getD j false) m x:=by
        simp only[aN]
        rw[aA m fun j hj hd'=>?_]
        have e:i≠j:=fun e=>by subst e;simp[aY,ho]at hd';exact hxd hd'
        exact getD_set_ne false e
       rw[hlw]at hx
       obtain⟨u,hu,hr'⟩:=htab' x b hx
       refine⟨u,?_,hr'⟩
       cases hod:o.dst with
       |none=>simpa[Act.put,hod]using hu
       |some d=>
        have hne:d≠x:=fun e=>hxd (by rw[hod,e])
        simp only[Act.put]
        rw[Array.getElem?_setIfInBounds,if_neg hne];exact hu
    have hnext:E i=none→∀v γ' σ' H' w',Mem w H (fun _=>False) γ' H' σ' w'→Rep γ H' (V i) v→wpAnyIn (Fr X.ro) 0 X.P .any all Q' fuel (listed.setIfInBounds i true) (a.put o.dst v) w':=by
     intro hE v γ' σ' H' w' hm' hr
     refine hnextG v γ H' w' (fun x b hx=>let⟨u,hu,r⟩:=htab x b hx;⟨u,hu,r.mono hm'.hle⟩) hr ?_
     have h9:=sst.calm (d:=o.dst) hm' hdok hr
     rw[aI (S':=fun j=>listed.getD j false) m (fun j hj hne=>by
      have e':i≠j:=fun e=>by subst e;exact hne hE
      exact getD_set_ne false e')]
     exact h9.wk (Wk.nil _) (Wk.refl _)
    have hmemσ:Mem X.w0 X.H0 X.B γ H σ w:=sst.mem.wk (fun x e hx=>d9 hx (fun i' y e' hE'=>fun hyx=>by
     have:=(aS (hfr i' y e' hE').1 hx).1
     exact this hyx.symm) m)
    have hguard:∀j b' d b,o.guard=some (j,b')→((all[j]?).bind (·.dst))=some d→look d (aM all V t0 i)=some (.d (.v (.bool b)))→yielded all a.tmps j=some b:=by
     intro j b' d b hg hd' hl
     have hnd:aB all o d=true:=by simp[aB,hg,hd']
     obtain⟨u,hu,hr⟩:=htab d _ (by rw[htab_i d hnd];exact hl)
     have:=aV hr
     subst this
     simp[yielded,hd',hu]
    have hguardU:∀j b' d,o.guard=some (j,b')→((all[j]?).bind (·.dst))=some d→look d (aM all V t0 i)=some (.tup [])→yielded all a.tmps j=none:=by
     intro j b' d hg hd' hl
     have hnd:aB all o d=true:=by simp[aB,hg,hd']
     obtain⟨u,hu,hr⟩:=htab d _ (by rw[htab_i d hnd];exact hl)
     have:=cP hr
     subst this
     simp[yielded,hd',hu,undef]
    unfold wpOpIn
    simp only[ho]
    rcases hos with⟨hE,⟨hg,hq⟩|⟨j,b,d,hg,hd',hl,hq⟩|⟨j,b,b',d,hg,hd',hl,hne,hV⟩|⟨j,b,d,hg,hd',hl,hV⟩⟩|⟨id,en,hg,hnj,hE⟩
    ·have hw:Region.wanted o (yielded all a.tmps)=true:=by simp[Region.wanted,hg]
     rw[if_pos hw]
     exact⟨fun _ _=>trivial,hq γ H a w sst.lam hopnd hmemσ _ _ (hnext hE)⟩
    ·have hw:Region.wanted o (yielded all a.tmps)=true:=by simp[Region.wanted,hg,hguard j b d b hg hd' hl]
     rw[if_pos hw]
     exact⟨fun _ _=>trivial,hq γ H a w sst.lam hopnd hmemσ _ _ (hnext hE)⟩
    ·have hw:Region.wanted o (yielded all a.tmps)=false:=by simp[Region.wanted,hg,hguard j b d b' hg hd' hl,hne]
     simp only[hw,Bool.false_eq_true,if_false]
     exact⟨fun _ _=>trivial,hnext hE undef γ [] H w (sst.mem.refl γ) (by rw[hV];exact cC)⟩
    ·have hw:Region.wanted o (yielded all a.tmps)=false:=by simp[Region.wanted,hg,hguardU j b d hg hd' hl]
     simp only[hw,Bool.false_eq_true,if_false]
     exact⟨fun _ _=>trivial,hnext hE undef γ [] H w (sst.mem.refl γ) (by rw[hV];exact cC)⟩
    ·have hw:Region.wanted o (yielded all a.tmps)=true:=by simp[Region.wanted,hg]
     rw[if_pos hw]
     refine⟨fun _ _=>trivial,?_⟩
     obtain⟨bv,bn,bw,hrun,hmn,hrn⟩:=hnj γ H a w hopnd hmemσ
     rw[show(Fr X.ro).round=X.ro from rfl,hrun,Oper.uponIn_value]
     obtain⟨f2,f3,f4⟩:=hfr i id _ hE
     have hfb:am id [] (au E (fun j=>listed.getD j false) σ m) X.pin=true:=by
      simp only[am,Bool.and_eq_true,List.all_eq_true]at f2 ⊢
      refine⟨⟨fun p hp=>by simp at hp,fun p hp=>?_⟩,f2.2⟩
      rcases fK m hp with h7|⟨j,_,h8,h9⟩
      ·simpa using f2.1.2 p h7
      ·obtain⟨y,f⟩:=p
       obtain⟨g1,g2⟩:=f4 j y f (fun e=>by subst e;rw[hif]at h8;cases h8) h9
       have:Nat.beq id y=false:=by rw[←Bool.not_eq_true,Nat.beq_eq];exact fun h=>g1 h.symm
       simp[this,g2]
     have hnew:=sst.new (d:=o.dst) hmn hfb hdok hrn
     refine hnextG _ (upd γ id ⟨w.heap.size,bn,fun _=>False⟩) H _ ?_ ?_ ?_
     ·intro x b hx
      obtain⟨u,hu',r⟩:=htab x b hx
      refine⟨u,hu',js r ?_⟩
      simp only[aN]at hx
      split at hx
      ·next j hj=>
       simp only[Option.some.injEq]at hx;subst hx
       obtain⟨h7,h8,h9⟩:=fA m j hj
       exact f3 j x h7 (fun e=>by subst e;rw[hif]at h8;cases h8) h9
      ·exact dK f2 hx
     ·exact hrn
     ·refine hnew.wk (Wk.nil _) fun x f hx=>?_
      rw[ae]
      rcases eg m hx with⟨j,hjm,hj,hEj⟩|hx
      ·by_cases e':j=i
       ·subst e'
        rw[hE]at hEj
        simp only[Option.some.injEq,Prod.mk.injEq]at hEj
        rw[if_pos hEj.1.symm,hEj.2]
       ·have hne:=(f4 j x f e' hEj).1
        rw[if_neg hne]
        refine cL (fun i1 j1 y e1 e2 h1' h2'=>Classical.byContradiction fun hne'=>(((hfr i1 y e1 h1').2.2 j1 y e2 (fun h=>hne' h.symm) h2').1 rfl)) m hjm ?_ hEj
        rw[getD_set_ne false (fun h=>e' h.symm)]at hj;exact hj
      ·have hne:=(aS f2 hx).1
       rw[if_neg hne]
       exact d9 hx (fun i' y e' hE'=>fun hyx=>by
        have:=(aS (hfr i' y e' hE').1 hx).1
        exact this hyx.symm) m
def CB (X:Cx)(all:Array Oper)(σ:Sg)(Q:T→Sg→Prop):List Oper→T→Sg→Prop
 |[],t,bs=>∃t',Wk t' t∧Q t' (bs++σ)
 |o::al,t,bs=>
  (∃V,OStep X all o t σ V∧dOk o.dst X.N=true∧bs.all (fun p=>!aP p.1 V)=true∧CB X all σ Q al (putT o.dst V t) bs)∨
  (∃id V e,o.dst=some id∧o.guard=none∧BirthJ X o t σ id V e∧dOk (some id) X.N=true∧
   am id t (bs++σ) X.pin=true∧bs.all (fun p=>!aJ p.1 e)=true∧bs.all (fun p=>!aP p.1 V)=true∧CB X all σ Q al ((id,V)::t) ((id,e)::bs))
section
variable {X:Cx} {all:Array Oper} {al:List Oper} {t:T} {σ bs:Sg} {Q:T→Sg→Prop} {o:Oper}
theorem CB.done (h:Q t (bs++σ)):CB X all σ Q [] t bs:=⟨t,Wk.refl t,h⟩
theorem CB.q {V:AV}(hg:o.guard=none)(h:QJ X o t σ V)(hN:dOk o.dst X.N=true)(hb:bs.all (fun p=>!aP p.1 V)=true)(k:CB X all σ Q al (putT o.dst V t) bs):CB X all σ Q (o::al) t bs:=.inl ⟨V,.inl ⟨hg,h⟩,hN,hb,k⟩
theorem Gp {V:AV}{j:Nat}{b:Bool}{d:Nat}(hg:o.guard=some (j,b))(hd:((all[j]?).bind (·.dst))=some d)(hl:look d t=some (.d (.v (.bool b))))(h:QJ X o t σ V)(hN:dOk o.dst X.N=true)
 (hb:bs.all (fun p=>!aP p.1 V)=true)(k:CB X all σ Q al (putT o.dst V t) bs):CB X all σ Q (o::al) t bs:=.inl ⟨V,.inr (.inl ⟨j,b,d,hg,hd,hl,h⟩),hN,hb,k⟩
theorem CB.no {j:Nat}{b b':Bool}{d:Nat}(hg:o.guard=some (j,b))(hd:((all[j]?).bind (·.dst))=some d)(hl:look d t=some (.d (.v (.bool b'))))(hne:(b'==b)=false)(hN:dOk o.dst X.N=true)
 (k:CB X all σ Q al (putT o.dst (.tup []) t) bs):CB X all σ Q (o::al) t bs:=.inl ⟨.tup [],.inr (.inr (.inl ⟨j,b,b',d,hg,hd,hl,by simpa using hne,rfl⟩)),hN,by simp[aP],k⟩
theorem Fy {j:Nat}{b:Bool}{d:Nat}(hg:o.guard=some (j,b))(hd:((all[j]?).bind (·.dst))=some d)(hl:look d t=some (.tup []))(hN:dOk o.dst X.N=true)
 (k:CB X all σ Q al (putT o.dst (.tup []) t) bs):CB X all σ Q (o::al) t bs:=.inl ⟨.tup [],.inr (.inr (.inr ⟨j,b,d,hg,hd,hl,rfl⟩)),hN,by simp[aP],k⟩
theorem CB.birth {id:Nat}{V:AV}{e:Ent}(hd:o.dst=some id)(hg:o.guard=none)(hn:BirthJ X o t σ id V e)(hN:dOk (some id) X.N=true)
 (hf:am id t (bs++σ) X.pin=true)(hb:bs.all (fun p=>!aJ p.1 e)=true)(hv:bs.all (fun p=>!aP p.1 V)=true)(k:CB X all σ Q al ((id,V)::t) ((id,e)::bs)):
 CB X all σ Q (o::al) t bs:=.inr ⟨id,V,e,hd,hg,hn,hN,hf,hb,hv,k⟩
theorem CB.born {id:Nat}{cs:List AV}(hd:o.dst=some id)(hg:o.guard=none)(hn:NewJ X o t cs)(hc:cs.any (aP id)=false)(hN:dOk (some id) X.N=true)
 (hf:am id t (bs++σ) X.pin=true)(hb:bs.all (fun p=>!aJ p.1 (.cells cs))=true)(k:CB X all σ Q al ((id,.box id 0)::t) ((id,.cells cs)::bs)):
 CB X all σ Q (o::al) t bs:=CB.birth hd hg (hn.birth hc) hN hf hb (by
  rw[List.all_eq_true]
  intro q hq
  have h7:=hf
  simp only[am,Bool.and_eq_true,List.all_eq_true]at h7
  have:=h7.1.2 q (by simp[hq])
  have hne:Nat.beq q.1 id=false:=by rw[←Bool.not_eq_true,Nat.beq_eq];intro e;rw[e]at this;simp at this
  simp[aP,cm,bX,hne]) k
theorem mj {id:Nat}{t t':T}{σ:Sg}{pin:List Nat}(h:am id t σ pin=true)(hw:∀p,p∈t'→p∈t):am id t' σ pin=true:=by
 simp only[am,Bool.and_eq_true,List.all_eq_true]at h ⊢
 exact⟨⟨fun p hp=>h.1.1 p (hw p hp),h.1.2⟩,h.2⟩
end
def k9:Option (Nat×Ent)→Sg→Sg
 |some q,bs=>q::bs
 |none,bs=>bs
def bd (E:Nat→Option (Nat×Ent))(k:Nat)(bs:Sg):Nat→Sg
 |0=>bs
 |j+1=>match E (k+j)with
  |some p=>p::bd E k bs j
  |none=>bd E k bs j
theorem cn {E E':Nat→Option (Nat×Ent)}{k:Nat}{bs:Sg}:∀j,(∀i,k≤i→i<k+j→E i=E' i)→bd E k bs j=bd E' k bs j
 |0,_=>rfl
 |j+1,h=>by
  simp only[bd]
  rw[h (k+j) (by omega) (by omega),cn j (fun i h1 h2=>h i h1 (by omega))]
theorem gw {E:Nat→Option (Nat×Ent)}{k:Nat}{bs:Sg}:∀j,bd E k bs (j+1)=bd E (k+1) (k9 (E k) bs) j
 |0=>by simp only[bd,Nat.add_zero];cases E k<;>rfl
 |j+1=>by
  rw[bd,gw j,bd]
  rw[show k+(j+1)=k+1+j from by omega]
theorem iw {E:Nat→Option (Nat×Ent)}{σ:Sg}:∀j,au E (fun _=>true) σ j=bd E 0 [] j++σ
 |0=>rfl
 |j+1=>by
  simp only[au,bd,Nat.zero_add,if_true]
  rw[iw j]
  cases E j<;>rfl
theorem om {id:Nat}{p:Nat×AV}{t:T}{σ:Sg}{pin:List Nat}(h:am id (p::t) σ pin=true):am id t σ pin=true∧aP id p.2=false:=by
 simp only[am,List.all_cons,Bool.and_eq_true]at h ⊢
 exact⟨⟨⟨h.1.1.2,h.1.2⟩,h.2⟩,by simpa using h.1.1.1⟩
theorem oo {id:Nat}{d:Option Nat}{V:AV}{t:T}{σ:Sg}{pin:List Nat}(h:am id (putT d V t) σ pin=true):am id t σ pin=true∧(∀x,d=some x→aP id V=false):=by
 cases d with
 |none=>exact⟨h,fun x hx=>by cases hx⟩
 |some d=>exact⟨(om h).1,fun _ _=>(om h).2⟩
theorem zq {id:Nat}{p:Nat×Ent}{t:T}{σ:Sg}{pin:List Nat}(h:am id t (p::σ) pin=true):am id t σ pin=true∧id≠p.1∧aJ id p.2=false:=by
 simp only[am,List.all_cons,Bool.and_eq_true,Bool.not_eq_true']at h ⊢
 exact⟨⟨⟨h.1.1,h.1.2.2⟩,h.2⟩,(fun e=>by rw[e]at h;simp at h),h.1.2.1.2⟩
def l5 (X:Cx)(all:Array Oper)(σ:Sg)(Q:T→Sg→Prop)(al:List Oper)(k:Nat)(t:T)(bs:Sg):Prop:=
 ∃(V:Nat→AV)(E:Nat→Option (Nat×Ent)),(∀j o,j<al.length→all[k+j]?=some o→wn X all o (aC all V t k j) σ (V (k+j)) (E (k+j))∧dOk o.dst X.N=true)∧
  (∃t',Wk t' (aC all V t k al.length)∧Q t' (bd E k bs al.length++σ))∧
  (∀j id e,j<al.length→E (k+j)=some (id,e)→am id t (bs++σ) X.pin=true)∧
  (∀j j' x id e,j<al.length→j'<al.length→j'≠j→E (k+j)=some (id,e)→aY all (k+j')=some x→aP id (V (k+j'))=false)∧
  (∀j j' id e id' e',j<al.length→j'<al.length→j'≠j→E (k+j)=some (id,e)→E (k+j')=some (id',e')→id'≠id∧aJ id e'=false)∧
  (∀p,p∈bs→∀j,j<al.length→(∀x,aY all (k+j)=some x→aP p.1 (V (k+j))=false)∧∀id e,E (k+j)=some (id,e)→id≠p.1∧aJ p.1 e=false)
theorem CB.table {X:Cx}{all:Array Oper}{σ:Sg}{Q:T→Sg→Prop}:∀(al:List Oper)(k:Nat)(t:T)(bs:Sg),(∀j,j<al.length→all[k+j]?=al[j]?)→CB X all σ Q al t bs→l5 X all σ Q al k t bs
 |[],k,t,bs,_,h=>by
  unfold l5
  exact⟨fun _=>.junk,fun _=>none,fun j o hj=>by simp at hj,h,fun j id e hj=>by simp at hj,fun j j' x id e hj=>by simp at hj,fun j j' id e id' e' hj=>by simp at hj,fun p _ j hj=>by simp at hj⟩
 |p::al,k,t,bs,ha,h=>by
  have hk:all[k]?=some p:=by simpa using ha 0 (by simp)
  have hdk:aY all k=p.dst:=by simp[aY,hk]
  have ha':∀j,j<al.length→all[k+1+j]?=al[j]?:=fun j hj=>by have:=ha (j+1) (by simp;omega);rw[show k+1+j=k+(j+1)from by omega];simpa using this
  have key:∀(V0:AV)(E0:Option (Nat×Ent)),wn X all p t σ V0 E0→dOk p.dst X.N=true→CB X all σ Q al (putT p.dst V0 t) (k9 E0 bs)→
   (∀id e,E0=some (id,e)→am id t (bs++σ) X.pin=true)→
   (∀q,q∈bs→(∀x,p.dst=some x→aP q.1 V0=false)∧∀id e,E0=some (id,e)→id≠q.1∧aJ q.1 e=false)→l5 X all σ Q (p::al) k t bs:=by
   intro V0 E0 hB hdok h4 hE0 hbs
   have ih:=CB.table al (k+1) _ _ ha' h4
   unfold l5 at ih ⊢
   obtain⟨V',E',i1,⟨t',i2,i3⟩,ia,ib,ic,id_⟩:=ih
   have hV:∀j,aC all (fun i=>if i=k then V0 else V' i) t k (j+1)=aC all V' (putT p.dst V0 t) (k+1) j:=fun j=>by
    rw[ct,hdk]
    simp only[if_true]
    exact cg j fun i h7 h8=>if_neg (by omega)
   have hEE:∀j,bd (fun i=>if i=k then E0 else E' i) k bs (j+1)=bd E' (k+1) (k9 E0 bs) j:=fun j=>by
    rw[gw]
    simp only[if_true]
    exact cn (E:=fun i=>if i=k then E0 else E' i) (E':=E') j fun i h7 h8=>if_neg (by omega)
   have hne:∀j,k+(j+1)≠k:=fun j=>by omega
   have hadd:∀j,k+(j+1)=k+1+j:=fun j=>by omega
   have freshL:∀id,am id (putT p.dst V0 t) ((k9 E0 bs)++σ) X.pin=true→am id t (bs++σ) X.pin=true∧(∀x,p.dst=some x→aP id V0=false)∧∀id' e',E0=some (id',e')→id'≠id∧aJ id e'=false:=by
    intro id hf
    obtain⟨g1,g2⟩:=oo hf
    cases E0 with
    |none=>exact⟨g1,g2,fun _ _ h=>by cases h⟩
    |some q=>
     obtain⟨g3,g4,g5⟩:=zq (p:=q) (σ:=bs++σ) g1
     exact⟨g3,g2,fun id' e' h=>by cases h;exact⟨fun h=>g4 h.symm,g5⟩⟩
   refine⟨fun i=>if i=k then V0 else V' i,fun i=>if i=k then E0 else E' i,?_,⟨t',by rw[List.length_cons,hV];exact i2,by rw[List.length_cons,hEE];exact i3⟩,?_,?_,?_,?_⟩
   ·intro j o hj ho
    cases j with
    |zero=>
     rw[Nat.add_zero,hk]at ho
     simp only[Option.some.injEq]at ho
     subst ho
     simp only[Nat.add_zero,if_true,aC]
     exact⟨hB,hdok⟩
    |succ j=>
     rw[hV]
     simp only[if_neg (hne j)]
     have:=i1 j o (by simpa using hj) (by rw[←hadd j];exact ho)
     rw[hadd j];exact this
   ·intro j id e hj hE
    cases j with
    |zero=>
     simp only[Nat.add_zero,if_true]at hE
     exact hE0 id e hE
    |succ j=>
     simp only[if_neg (hne j)]at hE;rw[hadd j]at hE
     have g2:=ia j id e (by simpa using hj) hE
     exact(freshL id g2).1
   ·intro j j' x id e hj hj' hjj hE hx
    cases j with
    |zero=>
     simp only[Nat.add_zero,if_true]at hE
     cases j' with
     |zero=>exact absurd rfl hjj
     |succ j'=>
      simp only[if_neg (hne j')]at hx ⊢;rw[hadd j']at hx ⊢
      exact(id_ (id,e) (by rw[hE];simp[k9]) j' (by simpa using hj')).1 x hx
    |succ j=>
     simp only[if_neg (hne j)]at hE;rw[hadd j]at hE
     cases j' with
     |zero=>
      simp only[Nat.add_zero,if_true]at hx ⊢
      exact(freshL id (ia j id e (by simpa using hj) hE)).2.1 x (by rw[←hdk];exact hx)
     |succ j'=>
      simp only[if_neg (hne j')]at hx ⊢;rw[hadd j']at hx ⊢
      exact ib j j' x id e (by simpa using hj) (by simpa using hj') (by omega) hE hx
   ·intro j j' id e id' e' hj hj' hjj hE hE'
    cases j with
    |zero=>
     simp only[Nat.add_zero,if_true]at hE
     cases j' with
     |zero=>exact absurd rfl hjj
     |succ j'=>
      simp only[if_neg (hne j')]at hE';rw[hadd j']at hE'
      exact(id_ (id,e) (by rw[hE];simp[k9]) j' (by simpa using hj')).2 id' e' hE'
    |succ j=>
     simp only[if_neg (hne j)]at hE;rw[hadd j]at hE
     cases j' with
     |zero=>
      simp only[Nat.add_zero,if_true]at hE'
      exact(freshL id (ia j id e (by simpa using hj) hE)).2.2 id' e' hE'
     |succ j'=>
      simp only[if_neg (hne j')]at hE';rw[hadd j']at hE'
      exact ic j j' id e id' e' (by simpa using hj) (by simpa using hj') (by omega) hE hE'
   ·intro q hq j hj
    cases j with
    |zero=>
     simp only[Nat.add_zero,if_true]
     exact⟨fun x hx=>(hbs q hq).1 x (by rw[←hdk];exact hx),(hbs q hq).2⟩
    |succ j=>
     simp only[if_neg (hne j)];rw[hadd j]
     exact id_ q (by cases E0<;>simp[k9,hq]) j (by simpa using hj)
  rcases h with⟨V0,h1,h2,h3,h4⟩|⟨id0,V0,e0,hd,hg,hnj,hN,hf,hb,hv,h4⟩
  ·refine key V0 none (.inl ⟨rfl,h1⟩) h2 h4 (fun id e h=>by cases h) fun q hq=>⟨fun x _=>?_,fun id e h=>by cases h⟩
   have:=List.all_eq_true.1 h3 q hq
   simpa using this
  ·refine key V0 (some (id0,e0)) (.inr ⟨id0,e0,hg,hnj,rfl⟩) (by rw[hd];exact hN) (by rw[hd];exact h4) (fun id e h=>by cases h;exact hf) fun q hq=>?_
   have hne:id0≠q.1:=by
    have h7:=hf
    simp only[am,Bool.and_eq_true,List.all_eq_true]at h7
    have:=h7.1.2 q (by simp[hq])
    intro e;rw[e]at this;simp at this
   refine⟨fun x _=>?_,fun id e h=>?_⟩
   ·have:=List.all_eq_true.1 hv q hq
    simpa using this
   ·cases h
    have:=List.all_eq_true.1 hb q hq
    exact⟨hne,by simpa using this⟩
theorem tf {X:Cx}{id:Nat}{ops:Array Oper}{t:T}{σ:Sg}{R:T→Sg→Prop}{Q':Exit→Act→World→Prop}(m:Nat)(hm:X.P.follows .mixedOrders=true)(hc:CalmR ops m)(hle:m≤ops.size)
 (hend:∀t σ,R t σ→∀γ H a w listed,St X γ H t σ a w→listed.size=ops.size→(∀j,j<ops.size→listed.getD j false=decide (j<m))→wpAnyIn (Fr X.ro) 0 X.P .any ops Q' (ops.size-m) listed a w)
 (h:CB X ops σ R (ops.toList.take m) t []):∀γ H a w,St X γ H t σ a w→(Code.region id ops true).wpIn (Fr X.ro) 0 X.P Q' a w:=by
 intro γ H a w s
 refine wpIn_region_any hm ?_
 have hlen:(ops.toList.take m).length=m:=by simp;omega
 have tb:=CB.table (ops.toList.take m) 0 t [] (fun j hj=>by rw[hlen]at hj;rw[Nat.zero_add,List.getElem?_take,if_pos hj];simp) h
 unfold l5 at tb
 obtain⟨V,E,h1,⟨t',h2,h3⟩,ha,hb,hc',_⟩:=tb
 simp only[hlen,Nat.zero_add]at h1 h2 h3 ha hb hc'
 have s':St X γ H t σ a {w with drawn:=w.drawn+1}:=⟨s.lam,s.round,s.defers,s.size,s.pinned,s.tmp,s.mem.drew⟩
 have hall:∀j,(Array.replicate ops.size false).getD j false=false:=fun j=>by
  rw[Array.getD_eq_getD_getElem?,Array.getElem?_replicate];split<;>rfl
 refine xE hc hle (V:=V) (E:=fun i=>if i<m then E i else none) (fun i o hi ho=>by
  have:=h1 i o hi ho
  rw[bl]at this
  simp only[if_pos hi];exact this) (fun i id e hE=>?_) (fun γ H a w lst st hls hlst=>?_) ops.size _ γ H a _ (by simp) (fun j _=>hall j) (fun i o hi=>by rw[hall i]at hi;cases hi) ?_ ?_ ?_
 ·have him:i<m:=by
   refine Classical.byContradiction fun hge=>?_
   rw[if_neg hge]at hE;cases hE
  simp only[if_pos him]at hE
  have g2:=ha i id e him hE
  refine⟨g2,fun j x hj hne hx=>hb i j x id e him hj hne hE hx,fun j id' e' hne hE'=>?_⟩
  by_cases hj:j<m
  ·rw[if_pos hj]at hE'
   exact hc' i j id e id' e' him hj hne hE hE'
  ·rw[if_neg hj]at hE';cases hE'
 ·have hbe:au (fun i=>if i<m then E i else none) (fun _=>true) σ m=bd E 0 [] m++σ:=by
   rw[iw]
   congr 1
   exact cn m fun i _ hi=>if_pos (by omega)
  rw[hbe]at st
  have hst:St X γ H t' (bd E 0 [] m++σ) a w:=st.wk (by rw[bl]at h2;exact h2) (Wk.refl _)
  exact hend _ _ h3 γ H a w lst hst hls hlst
 ·have:((List.range m).filter fun j=>!(Array.replicate ops.size false).getD j false)=List.range m:=List.filter_eq_self.2 fun j _=>by rw[hall j];rfl
  rw[this,List.length_range];omega
 ·intro x b hx
  have:bB ops (fun j=>(Array.replicate ops.size false).getD j false) x m=none:=by
   have h0:∀k,bB ops (fun _=>false) x k=none:=fun k=>by
    induction k with
    |zero=>rfl
    |succ k ih=>simp[bB,ih]
   rw[aA (S':=fun _=>false) m (fun j _ _=>hall j)];exact h0 m
  simp only[aN,this]at hx
  exact s.tmp x b hx
 ·have:au (fun i=>if i<m then E i else none) (fun j=>(Array.replicate ops.size false).getD j false) σ m=σ:=by
   have h0:∀k,au (fun i=>if i<m then E i else none) (fun _=>false) σ k=σ:=fun k=>by
    induction k with
    |zero=>rfl
    |succ k ih=>simp only[au,ih];split<;>simp
   rw[aI (S':=fun _=>false) m (fun j _ _=>hall j)];exact h0 m
  rw[this];exact s'.wk (Wk.nil _) (Wk.refl _)
theorem Ad {X:Cx}{id:Nat}{ops:Array Oper}{t:T}{σ:Sg}{Q:Qt}(m:Nat)(hm:X.P.follows .mixedOrders=true)(hc:oP ops m=true)(hle:m≤ops.size)
 (h:CB X ops σ (fun t σ=>LJ X ops m (ops.toList.drop m) t σ (Q .normal)) (ops.toList.take m) t []):WJ X (.region id ops true) t σ Q:=
 tf m hm (zS hc) hle (fun t σ h3 γ H a w lst hst hls hlst=>by
  have:=h3 (fun j=>by simp) (pn X Q) (fun γ H t σ a w s q=>⟨γ,H,t,σ,s,q⟩) γ H a w hst
  simp only[List.length_drop,Array.length_toList]at this
  exact kl hc _ m lst a w (Nat.le_refl _) (by omega) hls hlst this) h
end Go.Gv
end
section
namespace Go.Gv
open Go.RowKit
def frz (H:HF)(b:Nat)(us:List Value):HF:=⟨fun c o=>if c=b then us[o]? else H.c c o,H.m⟩
theorem HOk.fresh {H:HF}{w:World}(h:HOk H w)(o:Nat):H.c w.heap.size o=none:=by
 cases hx:H.c w.heap.size o with
 |none=>rfl
 |some v=>have:=cr (h.c _ _ _ hx);omega
theorem zp {H:HF}{w:World}(h:HOk H w)(us:List Value):HLe H (frz H w.heap.size us):=
 ⟨fun b o v hv=>by
  show(if b=w.heap.size then us[o]? else H.c b o)=some v
  split
  ·next e=>subst e;rw[h.fresh]at hv;cases hv
  ·exact hv,fun _ _ h=>h⟩
theorem Mem.frz {w0 w:World}{H0 H:HF}{B:Nat→Prop}{γ:Ids}{σ:Sg}(h:Mem w0 H0 B γ H σ w)(γ':Ids)(us:List Value)(el:TypeId):Mem w H (fun _=>False) γ' (frz H w.heap.size us) [] (w.alloc (.cells us.toArray el)):=by
 have old:∀k,k<w.heap.size→(w.alloc (.cells us.toArray el)).heap[k]?=w.heap[k]?:=fun k hk=>Below.heap_alloc w _ k hk
 refine⟨⟨rfl,rfl,rfl,by simp,fun k hk _=>old k hk⟩,zp h.hok us,⟨fun b o v hv=>?_,fun b x hx=>.inl hx⟩,⟨fun b o v hv=>?_,fun b es c hv=>?_⟩,fun i e h=>by simp[look]at h,fun i e h=>by simp[look]at h,fun i e h=>by simp[look]at h,fun i e j e' b h=>by simp[look]at h⟩
 ·by_cases e:b=w.heap.size
  ·exact .inr (.inl (by omega))
  ·exact .inl (by simpa[Gv.frz,e]using hv)
 ·by_cases e:b=w.heap.size
  ·subst e
   have:us[o]?=some v:=by simpa[Gv.frz]using hv
   simp only[World.cell?,World.alloc_heap_new]
   simpa using this
  ·have hv':H.c b o=some v:=by simpa[Gv.frz,e]using hv
   have h0:=h.hok.c b o v hv'
   have hlt:=cr h0
   simp only[World.cell?]at h0 ⊢
   rw[old b hlt];exact h0
 ·have:=h.hok.m b es c hv
  exact(old b (aF this)).trans this
theorem oq {α:Type}(off:Nat):∀(vs us:List α)(k:Nat),(vs.zipIdx k).foldl (fun(cs:Array α)(p:α×Nat)=>cs.setIfInBounds (off+p.2) p.1) us.toArray=(bI us (off+k) vs).toArray
 |[],us,k=>rfl
 |v::vs,us,k=>by
  simp only[List.zipIdx_cons,List.foldl_cons,bI]
  rw[show us.toArray.setIfInBounds (off+k) v=(us.set (off+k) v).toArray from by simp,oq off vs _ (k+1)]
  rfl
def gu (place:Nat→Option (Nat×Nat))(cells:List AV):List (Nat×AV)→Option (List AV)
 |[]=>some cells
 |(i,a)::r=>match place i with
  |none=>none
  |some (off,size)=>match cz a&&Nat.beq (aE a).length size&&Nat.ble (off+size) cells.length with
   |true=>gu place (bI cells off (aE a)) r
   |false=>none
theorem ip {γ:Ids}{H:HF}{place:Nat→Option (Nat×Nat)}{cs':List AV}:∀(ps:List (Nat×AV))(vs:List (Nat×Value))(cs:List AV)(us:List Value),us.length=cs.length→
 (∀(j:Nat)(x:AV)(y:Value),cs[j]?=some x→us[j]?=some y→Rep γ H x y)→vs.length=ps.length→
 (∀(j:Nat)(p:Nat×AV)(q:Nat×Value),ps[j]?=some p→vs[j]?=some q→p.1=q.1∧Rep γ H p.2 q.2)→gu place cs ps=some cs'→
 ∃us':List Value,Instr.fill place us.toArray vs=some us'.toArray∧us'.length=cs'.length∧∀(j:Nat)(x:AV)(y:Value),cs'[j]?=some x→us'[j]?=some y→Rep γ H x y
 |[],[],cs,us,hl,hr,_,_,h=>by
  simp only[gu,Option.some.injEq]at h;subst h
  exact⟨us,rfl,hl,hr⟩
 |(i,a)::ps,(i',v)::vs,cs,us,hl,hr,hlen,hp,h=>by
  obtain⟨hi,ha⟩:=hp 0 _ _ rfl rfl
  simp only at hi ha
  subst hi
  simp only[gu]at h
  split at h
  ·cases h
  ·next off size hpl=>
   split at h
   ·next hb=>
    simp only[Bool.and_eq_true,Nat.beq_eq,Nat.ble_eq]at hb
    obtain⟨⟨h1,h2⟩,h3⟩:=hb
    obtain⟨ws,hw,hwl,hwr⟩:=cQ ha h1
    obtain⟨us',e1,e2,e3⟩:=ip ps vs (bI cs off (aE a)) (bI us off ws) (by rw[bV,bV,hl]) (lw (R:=Rep γ H) _ _ _ _ _ hl hwl hr hwr) (by simpa using hlen)
     (fun j p q hj hq=>hp (j+1) p q (by simpa using hj) (by simpa using hq)) h
    refine⟨us',?_,e2,e3⟩
    simp only[Instr.fill,hpl,hw]
    have hsz:(ws.toArray.size≠size)=False:=by simp;omega
    have hle:(off+ws.toArray.size>us.toArray.size)=False:=by simp;omega
    simp only[hsz,hle,decide_false,Bool.or_self,Bool.false_eq_true,if_false]
    have:=oq off ws us 0
    rw[Nat.add_zero]at this
    rw[show ws.toArray.zipIdx=(ws.zipIdx).toArray from by simp,List.foldl_toArray',this]
    exact e1
    rfl
   ·cases h
 |[],_::_,_,_,_,_,hlen,_,_=>by simp at hlen
 |_::_,[],_,_,_,_,hlen,_,_=>by simp at hlen
def jO (z:List Value)(n:Nat):List AV:=(List.range n).map fun i=>match z[i % z.length]? with
 |some x=>fH x
 |none=>.junk
theorem wo {γ:Ids}{H:HF}{z:Array Value}{n:Nat}:((Array.range n).map (z[·% z.size]!)).toList.length=(jO z.toList n).length∧
 ∀(j:Nat)(x:AV)(y:Value),(jO z.toList n)[j]?=some x→((Array.range n).map (z[·% z.size]!)).toList[j]?=some y→Rep γ H x y:=by
 refine⟨by simp[jO],fun j x y hx hy=>?_⟩
 simp only[jO,List.getElem?_map,Option.map_eq_some_iff]at hx
 obtain⟨i,hi,rfl⟩:=hx
 have hij:i=j∧j<n:=by
  rw[List.getElem?_eq_some_iff]at hi
  obtain⟨h1,h2⟩:=hi
  simp at h1 h2
  exact⟨h2.symm,h1⟩
 obtain⟨rfl,hin⟩:=hij
 have hy':y=z[i % z.size]!:=by
  simp[hin]at hy
  exact hy.symm
 subst hy'
 rw[show z.toList.length=z.size from by simp]
 split
 ·next v hv=>
  have:z[i % z.size]! =v:=by
   rw[Array.getElem?_toList]at hv
   rw[getElem!_def,hv]
  rw[this];exact hX v
 ·exact .junk _
def fF (k n:Nat)(ds:List D):List (List D):=(List.range n).map fun j=>(ds.drop (j*k)).take k
theorem lT {k n:Nat}{ds:List D}(hl:ds.length=n*k){j l:Nat}{cs:List D}{a:D}(hj:(fF k n ds)[j]?=some cs)(ha:cs[l]?=some a):j<n∧l<k∧ds[j*k+l]?=some a:=by
 simp only[fF,List.getElem?_map,Option.map_eq_some_iff]at hj
 obtain⟨i,hi,rfl⟩:=hj
 rw[List.getElem?_eq_some_iff]at hi
 obtain⟨h1,h2⟩:=hi
 simp at h1 h2
 subst h2
 rw[List.getElem?_take]at ha
 split at ha
 ·next h3=>rw[List.getElem?_drop]at ha;exact⟨h1,h3,ha⟩
 ·cases ha
theorem p7 {k n:Nat}{ds:List D}(hl:ds.length=n*k):(fF k n ds).length=n∧∀cs,cs∈fF k n ds→cs.length=k:=by
 refine⟨by simp[fF],fun cs hcs=>?_⟩
 simp only[fF,List.mem_map,List.mem_range]at hcs
 obtain⟨j,hj,rfl⟩:=hcs
 have:j*k+k≤n*k:=by
  calc j*k+k=(j+1)*k:=by rw[Nat.add_mul];omega
   _≤n*k:=Nat.mul_le_mul_right _ (by omega)
 simp;omega
section lit
variable {X:Cx} {d:Option Nat} {ty:TypeId} {pos:String} {aft:Array Edge} {g:Option (Nat×Bool)} {t:T} {σ:Sg} {K:T→Sg→Prop}
def eY (t:T):List (Nat×Operand)→Option (List (Nat×AV))
 |[]=>some []
 |(i,o)::l=>match ge t o with
  |some a=>match eY t l with
   |some r=>some ((i,a)::r)
   |none=>none
  |none=>none
theorem ed {γ:Ids}{H:HF}{a:Act}:∀{l:List (Nat×Operand)}{ps:List (Nat×AV)}(_:∀x,x∈l.map Prod.snd→∀v,ge t x=some v→Rep γ H v (a.eval x)),eY t l=some ps→
 (l.map fun p=>(p.1,a.eval p.2)).length=ps.length∧∀(j:Nat)(p:Nat×AV)(q:Nat×Value),ps[j]?=some p→(l.map fun p=>(p.1,a.eval p.2))[j]?=some q→p.1=q.1∧Rep γ H p.2 q.2
 |[],ps,_,h=>by simp only[eY,Option.some.injEq]at h;subst h;simp
 |(i,o)::l,ps,ho,h=>by
  simp only[eY]at h
  split at h
  ·next av hav=>
   split at h
   ·next r hr=>
    simp only[Option.some.injEq]at h;subst h
    obtain⟨h1,h2⟩:=ed (l:=l) (fun x hx=>ho x (by simp only[List.map_cons,List.mem_cons];exact .inr hx)) hr
    refine⟨by simpa using h1,fun j p q hp hq=>?_⟩
    cases j with
    |zero=>simp at hp hq;subst hp;subst hq;exact⟨rfl,ho o (by simp) av hav⟩
    |succ j=>exact h2 j p q (by simpa using hp) (by simpa using hq)
   ·cases h
  ·cases h
theorem wH {P:Program}{st el:TypeId}{len k:Nat}{z:Value}{vs:List (Nat×Value)}{us':List Value}{w:World}(hu:P.underlying st=some (.slice el))(hz:∀w,(sizeOf el).run P w=.ok k w)(hzv:∀w,(zeroValue el).run P w=.ok z w)
 (hsm:len*k≤16777216)(hf:Instr.fill (fun i=>some (i*k,k)) ((Array.range (len*k)).map (z.cells[·% z.cells.size]!)) vs=some us'.toArray):
 (Instr.buildSlice st len vs.toArray).run P w=.ok (.slice (some ⟨w.heap.size,0,none⟩) len len) (w.alloc (.cells us'.toArray el)):=by
 have hsm':¬(len*k>16777216):=by omega
 by_cases h0:len*k=0
 ·have e0:∀f:Nat→Value,(Array.range 0).map f=#[]:=fun f=>by simp[Array.range]
  rw[h0,e0]at hf
  simp only[Instr.buildSlice,underlying,Sem.run_bind,run_program,Result.andThen_ok,hu,Sem.run_pure,hz,h0]
  simp only[e0]
  simp[hf,newRow]
 ·simp only[Instr.buildSlice,underlying,Sem.run_bind,run_program,Result.andThen_ok,hu,Sem.run_pure,hz]
  simp[hsm',h0,hzv,hf,newRow]
theorem Gl {st el:TypeId}{len k:Nat}{parts:Array (Nat×Operand)}{z:Value}{ps:List (Nat×AV)}{cs:List AV}{ds:List D}(hp:eY t parts.toList=some ps)(hu:X.P.underlying st=some (.slice el))
 (hz:∀w,(sizeOf el).run X.P w=.ok k w)(hzv:∀w,(zeroValue el).run X.P w=.ok z w)(hsm:len*k≤16777216)(hle0:len≤16777216)(hf:gu (fun i=>some (i*k,k)) (jO z.cells.toList (len*k)) ps=some cs)(hd:fO cs=some ds)(hl:ds.length=len*k):
 QJ X ⟨d,.buildSlice st len parts,ty,pos,aft,g⟩ t σ (.full k (fF k len ds)):=by
 intro γ H a w _ so sm next Q' hk
 obtain⟨h1,h2⟩:=ed (t:=t) (l:=parts.toList) (fun x hx=>so x (by simp[Op.operands]at hx ⊢;exact hx)) hp
 obtain⟨hz1,hz2⟩:=wo (γ:=γ) (H:=H) (z:=z.cells) (n:=len*k)
 obtain⟨us',e1,e2,e3⟩:=ip (γ:=γ) (H:=H) ps _ (jO z.cells.toList (len*k)) _ hz1 hz2 h1 h2 hf
 simp only[Array.toArray_toList]at e1
 have hrun:=wH (P:=X.P) (w:=w) hu hz hzv hsm e1
 have hx:(execOp a.eval ⟨d,.buildSlice st len parts,ty,pos,aft,g⟩).run X.P w=.ok (.value (.slice (some ⟨w.heap.size,0,none⟩) len len)) (w.alloc (.cells us'.toArray el)):=by
  have e:parts.map (fun(i,x)=>(i,a.eval x))=(parts.toList.map fun p=>(p.1,a.eval p.2)).toArray:=by
   apply Array.toList_inj.1;simp
  simp only[execOp,Sem.run_bind]
  rw[e,hrun];rfl
 rw[aG (by simp),hx,Oper.uponIn_value]
 obtain⟨hd1,hd2⟩:=fE hd
 have hul:us'.length=len*k:=by rw[e2,←hd1,hl]
 have hle:=zp sm.hok us'
 obtain⟨hc1,hc2⟩:=p7 (k:=k) hl
 refine hk _ γ [] _ _ (sm.frz γ us' el) ?_
 have hr:RepD (frz H w.heap.size us') (.sl k (fF k len ds)) (.slice (some ⟨w.heap.size,0,none⟩) (fF k len ds).length (fF k len ds).length):=by
  by_cases hk0:k=0
  ·subst hk0
   refine .sl 0 _ _ _ w.heap.size 0 (fun _ _=>undef) hc2 (Nat.le_refl _) ?_ (fun _=>rfl) (fun j i _ hi=>by omega) (fun j i cs a h3 h4=>?_)
   ·rw[hc1];omega
   ·obtain⟨_,h5,_⟩:=lT hl h3 h4;omega
  ·refine .sl k _ _ _ w.heap.size 0 (fun j i=>us'.getD (j*k+i) undef) hc2 (Nat.le_refl _) ?_ (fun _=>rfl) (fun j i hj hi=>?_) (fun j i cs a h3 h4=>?_)
   ·rw[hc1]
    have:len≤len*k:=Nat.le_mul_of_pos_right _ (by omega)
    omega
   ·have hlt:j*k+i<us'.length:=by
     rw[hul]
     rw[hc1]at hj
     calc j*k+i<j*k+k:=by omega
      _=(j+1)*k:=by rw[Nat.add_mul];omega
      _≤len*k:=Nat.mul_le_mul_right _ (by omega)
    show(if w.heap.size=w.heap.size then us'[0+j*k+i]? else _)=_
    rw[if_pos rfl,Nat.zero_add,List.getD_eq_getElem?_getD,List.getElem?_eq_getElem hlt];rfl
   ·obtain⟨h5,h6,h7⟩:=lT hl h3 h4
    obtain⟨av,h8,h9⟩:=hd2 _ a h7
    have hlt:j*k+i<us'.length:=by rw[e2];exact(List.getElem?_eq_some_iff.1 h8).1
    have:=e3 _ av us'[j*k+i] h8 (by simp[hlt])
    rw[List.getD_eq_getElem?_getD,List.getElem?_eq_getElem hlt]
    exact(fk h9 this).mono hle
 have:=Rep.full (γ:=γ) (H:=frz H w.heap.size us') k _ _ hr
 rw[hc1]at this
 exact this
theorem ku {P:Program}{t:TypeId}(h:(P.info? t).isSome=true)(w:World):(sizeOf t).run P w=.ok (P.cellsOf t) w:=by
 cases hi:P.info? t with
 |none=>rw[hi]at h;cases h
 |some i=>simp[sizeOf,typeInfo,Program.cellsOf,hi]
theorem nF {P:Program}{w:World}:∀(fs:List Field),(fs.all fun f=>(P.info? f.type).isSome)=true→
 (fs.mapM fun f=>do pure (f.offset,←sizeOf f.type):Sem (List (Nat×Nat))).run P w=.ok (fs.map fun f=>(f.offset,P.cellsOf f.type)) w
 |[],_=>by simp
 |f::fs,h=>by
  simp only[List.all_cons,Bool.and_eq_true]at h
  have ih:=nF (w:=w) fs h.2
  simp only[List.mapM_cons,Sem.run_bind,ku h.1,Result.andThen_ok,Sem.run_pure,ih,List.map_cons]
theorem O.build {s:TypeId}{fs:Array Field}{parts:Array (Nat×Operand)}{z:Value}{ps:List (Nat×AV)}{cs:List AV}(hp:eY t parts.toList=some ps)(hu:X.P.underlying s=some (.struct fs))
 (hzv:∀w,(zeroValue s).run X.P w=.ok z w)(hpl:(fs.toList.all fun f=>(X.P.info? f.type).isSome)=true)
 (hf:gu (fun i=>((fs.toList.map fun f=>(f.offset,X.P.cellsOf f.type)))[i]?) (z.cells.toList.map fH) ps=some cs):QJ X ⟨d,.build s parts,ty,pos,aft,g⟩ t σ (.agg cs):=
 QJ.value (by simp) (fun γ H a w so sm=>by
  obtain⟨h1,h2⟩:=ed (t:=t) (l:=parts.toList) (fun x hx=>so x (by simp[Op.operands]at hx ⊢;exact hx)) hp
  obtain⟨us',e1,e2,e3⟩:=ip (γ:=γ) (H:=H) ps _ (z.cells.toList.map fH) z.cells.toList (by simp) (fun j x y hx hy=>by
   simp only[List.getElem?_map,hy,Option.map_some,Option.some.injEq]at hx
   subst hx;exact hX y) h1 h2 hf
  simp only[Array.toArray_toList]at e1
  refine⟨.agg us'.toArray,?_,.agg _ _ e2 e3⟩
  have e:parts.map (fun(i,x)=>(i,a.eval x))=(parts.toList.map fun p=>(p.1,a.eval p.2)).toArray:=by
   apply Array.toList_inj.1;simp
  simp only[execOp,Sem.run_bind,e,Instr.build,hzv,Result.andThen_ok,run_underlying hu]
  have hpl':=nF (w:=w) _ hpl
  have hpa:(fs.mapM fun f=>do pure (f.offset,←sizeOf f.type):Sem (Array (Nat×Nat))).run X.P w=.ok (fs.toList.map fun f=>(f.offset,X.P.cellsOf f.type)).toArray w:=by
   rw[Array.mapM_eq_mapM_toList]
   simp only[Sem.run_map,hpl',Result.andThen_ok]
  rw[hpa]
  simp only[Result.andThen_ok,List.getElem?_toArray,e1,Sem.run_pure])
end lit
end Go.Gv
end
section
namespace Go.Gv
open Go.RowKit
inductive Pub where
 |c (ds:List D)
 |a (k:Nat) (xs:List (List D))
 |m (ag:Bool) (ks:List Value) (vs:List (List D))
def kB:Ent→Option Pub
 |.cells cs=>match fO cs with
  |some ds=>some (.c ds)
  |none=>none
 |.arr k xs=>some (.a k xs)
 |.mp ag ks vs=>some (.m ag ks vs)
 |_=>none
def np (i:Nat)(p:Pub):AV→AV
 |.box j off=>match Nat.beq i j,p with
  |true,.c ds=>.d (.ptr (ds.drop off))
  |_,_=>.box j off
 |.boxX j off=>match Nat.beq i j,p with
  |true,.c ds=>.d (.ptr (ds.drop off))
  |_,_=>.boxX j off
 |.mp j=>match Nat.beq i j,p with
  |true,.m ag ks vs=>.d (.mp ag ks vs)
  |_,_=>.mp j
 |a=>a
def wC (i:Nat)(p:Pub):AV→AV
 |.agg cs=>.agg (cs.map (np i p))
 |.tup cs=>.tup (cs.map (np i p))
 |.fnp f cs=>.fnp f (cs.map (np i p))
 |a=>np i p a
def tP (i:Nat)(p:Pub):AV→AV
 |.agg cs=>.agg (cs.map (wC i p))
 |.tup cs=>.tup (cs.map (wC i p))
 |.fnp f cs=>.fnp f (cs.map (wC i p))
 |a=>np i p a
def lh (γ:Ids)(H:HF)(i:Nat):Pub→Prop
 |.c ds=>∀off,RepD H (.ptr (ds.drop off)) (.pointer (some ⟨(γ i).b,off,none⟩))
 |.a k xs=>∀(n:Nat)(A:Option Addr),n≤xs.length→n≤(γ i).n→(0<(γ i).n→A=some ⟨(γ i).b,0,none⟩)→n≤9223372036854775807→RepD H (.sl k (xs.take n)) (.slice A n (γ i).n)
 |.m ag ks vs=>RepD H (.mp ag ks vs) (.map (some (γ i).b))
theorem cq {γ:Ids}{H:HF}{i:Nat}{p:Pub}(hp:lh γ H i p){a:AV}{u:Value}(r:Rep γ H a u):Rep γ H (np i p a) u:=by
 cases r with
 |box j off=>
  simp only[np]
  split
  ·next ds he=>
   obtain rfl:=Nat.eq_of_beq_eq_true he
   exact .d _ _ (hp off)
  ·exact .box j off
 |boxX j off=>
  simp only[np]
  split
  ·next ds he=>
   obtain rfl:=Nat.eq_of_beq_eq_true he
   exact .d _ _ (hp off)
  ·exact .boxX j off
 |mp j=>
  simp only[np]
  split
  ·next ag ks vs he=>
   obtain rfl:=Nat.eq_of_beq_eq_true he
   exact .d _ _ hp
  ·exact .mp j
 |junk=>exact .junk _
 |d x u h=>exact .d x u h
 |full k xs A h=>exact .full k xs A h
 |agg cs us hl h=>exact .agg cs us hl h
 |tup cs us hl h=>exact .tup cs us hl h
 |fnp f cs us hl h=>exact .fnp f cs us hl h
 |arr j k n A hn hA=>exact .arr j k n A hn hA
 |suf j k l n A hn hA=>exact .suf j k l n A hn hA
theorem ec {γ:Ids}{H:HF}{f:AV→AV}(hf:∀{a:AV}{u:Value},Rep γ H a u→Rep γ H (f a) u){cs:List AV}{us:List Value}(h:∀(j:Nat)(a:AV)(u:Value),cs[j]?=some a→us[j]?=some u→Rep γ H a u):
 ∀(j:Nat)(a:AV)(u:Value),(cs.map f)[j]?=some a→us[j]?=some u→Rep γ H a u:=fun j a u ha hu=>by
 simp only[List.getElem?_map,Option.map_eq_some_iff]at ha
 obtain⟨b,hb,rfl⟩:=ha
 exact hf (h j b u hb hu)
theorem jS {γ:Ids}{H:HF}{i:Nat}{p:Pub}(hp:lh γ H i p){a:AV}{u:Value}(r:Rep γ H a u):Rep γ H (wC i p a) u:=by
 cases r with
 |agg cs us hl h=>exact .agg _ us (by simp[hl]) (ec (cq hp) h)
 |tup cs us hl h=>exact .tup _ us (by simp[hl]) (ec (cq hp) h)
 |fnp f cs us hl h=>exact .fnp f _ us (by simp[hl]) (ec (cq hp) h)
 |box j off=>exact cq hp (.box j off)
 |boxX j off=>exact cq hp (.boxX j off)
 |mp j=>exact cq hp (.mp j)
 |junk=>exact .junk _
 |d x u h=>exact .d x u h
 |full k xs A h=>exact .full k xs A h
 |arr j k n A hn hA=>exact .arr j k n A hn hA
 |suf j k l n A hn hA=>exact .suf j k l n A hn hA
theorem g9 {γ:Ids}{H:HF}{i:Nat}{p:Pub}(hp:lh γ H i p){a:AV}{u:Value}(r:Rep γ H a u):Rep γ H (tP i p a) u:=by
 cases r with
 |agg cs us hl h=>exact .agg _ us (by simp[hl]) (ec (jS hp) h)
 |tup cs us hl h=>exact .tup _ us (by simp[hl]) (ec (jS hp) h)
 |fnp f cs us hl h=>exact .fnp f _ us (by simp[hl]) (ec (jS hp) h)
 |box j off=>exact cq hp (.box j off)
 |boxX j off=>exact cq hp (.boxX j off)
 |mp j=>exact cq hp (.mp j)
 |junk=>exact .junk _
 |d x u h=>exact .d x u h
 |full k xs A h=>exact .full k xs A h
 |arr j k n A hn hA=>exact .arr j k n A hn hA
 |suf j k l n A hn hA=>exact .suf j k l n A hn hA
def DP (i:Nat)(p:Pub)(t:T):T:=t.map fun q=>(q.1,tP i p q.2)
def wB (i:Nat)(p:Pub):Ent→Ent
 |.cells cs=>.cells (cs.map (tP i p))
 |.cellsT t cs=>.cellsT t (cs.map (tP i p))
 |e=>e
def ph (i:Nat)(p:Pub)(σ:Sg):Sg:=σ.map fun q=>(q.1,wB i p q.2)
theorem cA {α:Type 1}{f:α→α}:∀{l:List (Nat×α)}{i:Nat},look i (l.map fun q=>(q.1,f q.2))=(look i l).map f
 |[],i=>rfl
 |(j,b)::r,i=>by
  rw[List.map_cons,ae,ae,cA]
  split<;>rfl
theorem gM {α:Type}{f:α→α}:∀{l:List (Nat×α)}{i:Nat},look i (l.map fun q=>(q.1,f q.2))=(look i l).map f
 |[],i=>rfl
 |(j,b)::r,i=>by
  rw[List.map_cons,ae,ae,gM]
  split<;>rfl
theorem mZ (γ:Ids)(j i:Nat)(p:Pub)(e:Ent):blk γ j (wB i p e)=blk γ j e:=by cases e<;>rfl
theorem Mem.pub {w0 w:World}{H0 H:HF}{B:Nat→Prop}{γ:Ids}{σ:Sg}(h:Mem w0 H0 B γ H σ w){i:Nat}{e:Ent}{p:Pub}(hi:look i σ=some e)(hp:kB e=some p):
 ∃H',lh γ H' i p∧Mem w H (blk γ i e) γ H' [(i,.gone)] w:=by
 have none1:∀(j:Nat)(f:Ent),look j ([(i,Ent.gone)]:Sg)=some f→f=.gone:=fun j f hj=>by
  rw[ae]at hj
  split at hj
  ·exact(Option.some.inj hj).symm
  ·simp[look]at hj
 have mk:∀H',HLe H H'→HNew w.heap.size (blk γ i e) H H'→HOk H' w→Mem w H (blk γ i e) γ H' [(i,.gone)] w:=fun H' h1 h2 h3=>
  ⟨Keeps.refl _ _,h1,h2,h3,fun j f hj=>by rw[none1 j f hj];trivial,fun j f hj b hb=>by rw[none1 j f hj]at hb;exact hb.elim,fun j f hj b hb=>by rw[none1 j f hj]at hb;exact hb.elim,
   fun j f l f' b hj _ hb=>by rw[none1 j f hj]at hb;exact hb.elim⟩
 have hfree:=h.free i e hi
 have hent:=h.ent i e hi
 have cellsH:∀(b:Nat)(us:List Value)(t:TypeId),blk γ i e b→w.heap[b]?=some (.cells us.toArray t (0,0))→
  HLe H ⟨fun c o=>if c=b then us[o]? else H.c c o,H.m⟩∧HNew w.heap.size (blk γ i e) H ⟨fun c o=>if c=b then us[o]? else H.c c o,H.m⟩∧HOk ⟨fun c o=>if c=b then us[o]? else H.c c o,H.m⟩ w:=by
  intro b us t hb hw
  refine⟨⟨fun c o v hv=>?_,fun c x hx=>hx⟩,⟨fun c o v hv=>?_,fun c x hx=>.inl hx⟩,⟨fun c o v hv=>?_,fun c es k hx=>h.hok.m c es k hx⟩⟩
  ·by_cases e':c=b
   ·subst e';rw[(hfree c hb).c]at hv;cases hv
   ·show(if c=b then us[o]? else H.c c o)=some v
    rw[if_neg e'];exact hv
  ·by_cases e':c=b
   ·subst e';exact .inr (.inr hb)
   ·simp only[if_neg e']at hv;exact .inl hv
  ·by_cases e':c=b
   ·subst e'
    simp only[if_true]at hv
    rw[aU hw];exact hv
   ·simp only[if_neg e']at hv;exact h.hok.c c o v hv
 cases e with
 |gone=>cases hp
 |obj o=>cases hp
 |res ρ s=>cases hp
 |cellsT t cs=>cases hp
 |arrT t k xs=>cases hp
 |cells cs=>
  simp only[kB]at hp
  split at hp
  ·next ds hd=>
   cases hp
   obtain⟨t,us,h1,h2,h3⟩:=hent
   obtain⟨a1,a2,a3⟩:=cellsH (γ i).b us t rfl h1
   obtain⟨d1,d2⟩:=k8 hd h2 h3
   refine⟨_,fun off=>?_,mk _ a1 a2 a3⟩
   refine .ptr (ds.drop off) (γ i).b off (fun j=>us.getD (off+j) .nilIface) (fun j hj=>?_) (fun j a ha=>?_)
   ·simp only[if_true]
    have:off+j<us.length:=by simp at hj;omega
    simp[List.getD,this]
   ·rw[List.getElem?_drop]at ha
    have:off+j<us.length:=by have:=(List.getElem?_eq_some_iff.1 ha).1;omega
    exact(d2 (off+j) a _ ha (by simp[List.getD,this])).mono a1
  ·cases hp
 |arr k xs=>
  cases hp
  obtain⟨h1,h2,h3⟩:=hent
  by_cases h0:0<(γ i).n
  ·obtain⟨t,us,h4,h5,h6⟩:=h3 h0
   obtain⟨a1,a2,a3⟩:=cellsH (γ i).b us t ⟨rfl,h0⟩ h4
   refine⟨_,fun n A hn hn' hA hm=>?_,mk _ a1 a2 a3⟩
   have hlen:(xs.take n).length=n:=by simp;omega
   have key:=RepD.sl (H:=⟨fun c o=>if c=(γ i).b then us[o]? else H.c c o,H.m⟩) k (xs.take n) A (γ i).n (γ i).b 0 (fun j l=>us.getD (j*k+l) .nilIface) (fun cs hcs=>h2 cs (List.mem_of_mem_take hcs))
    (by omega) (by omega) (fun _=>hA h0) (fun j l hj hl=>?_) (fun j l cs a ha hb=>?_)
   ·rw[hlen]at key;exact key
   ·simp only[if_true]
    rw[hlen]at hj
    have:j*k+l<us.length:=by
     rw[h5]
     calc j*k+l<j*k+k:=by omega
      _=(j+1)*k:=by rw[Nat.add_mul];omega
      _≤(γ i).n*k:=Nat.mul_le_mul_right _ (by omega)
    simp[List.getD,this]
   ·rw[List.getElem?_take]at ha
    split at ha
    ·next hj=>
     have hl:l<k:=by rw[←h2 cs (aQ ha)];exact(List.getElem?_eq_some_iff.1 hb).1
     have:j*k+l<us.length:=by
      rw[h5]
      calc j*k+l<j*k+k:=by omega
       _=(j+1)*k:=by rw[Nat.add_mul];omega
       _≤(γ i).n*k:=Nat.mul_le_mul_right _ (by omega)
     exact(h6 j l cs a _ ha hb (by simp[List.getD,this])).mono a1
    ·cases ha
  ·refine⟨H,fun n A hn hn' hA hm=>?_,mk _ (HLe.refl _) (HNew.refl _ _ _) h.hok⟩
   obtain rfl:n=0:=by omega
   exact .sl k [] A (γ i).n 0 0 (fun _ _=>.nilIface) (fun _ h=>by simp at h) (by simp) (by simp) (fun h=>by simp at h) (fun _ _ h=>by simp at h) (fun _ _ _ _ h=>by simp at h)
 |mp ag ks vs=>
  cases hp
  obtain⟨es,clock,us,h1,h2⟩:=hent
  have a1:HLe H ⟨H.c,fun c=>if c=(γ i).b then some (es,clock)else H.m c⟩:=⟨fun _ _ _ hv=>hv,fun c x hx=>by
   by_cases e':c=(γ i).b
   ·subst e';rw[(hfree _ rfl).m]at hx;cases hx
   ·show(if c=(γ i).b then some (es,clock)else H.m c)=some x
    rw[if_neg e'];exact hx⟩
  refine⟨⟨H.c,fun c=>if c=(γ i).b then some (es,clock)else H.m c⟩,?_,mk _ a1 ⟨fun c o v hv=>.inl hv,fun c x hx=>?_⟩ ⟨h.hok.c,fun c es' k hx=>?_⟩⟩
  ·exact .mp ag ks vs (γ i).b es clock us (if_pos rfl) h2.l h2.l2 h2.k h2.u fun j l cs a u x y z=>(h2.r j l cs a u x y z).mono a1
  ·by_cases e':c=(γ i).b
   ·exact .inr (.inr e')
   ·simp only[if_neg e']at hx;exact .inl hx
  ·by_cases e':c=(γ i).b
   ·subst e'
    simp only[if_true,Option.some.injEq,Prod.mk.injEq]at hx
    obtain⟨rfl,rfl⟩:=hx
    exact h1
   ·simp only[if_neg e']at hx;exact h.hok.m c es' k hx
theorem EntOk.sub {γ:Ids}{H:HF}{w:World}{i j:Nat}{e:Ent}{p:Pub}(hp:lh γ H i p)(h:EntOk γ H w j e):EntOk γ H w j (wB i p e):=by
 cases e with
 |cells cs=>
  obtain⟨t,us,h1,h2,h3⟩:=h
  exact⟨t,us,h1,by simp[h2],ec (g9 hp) h3⟩
 |cellsT t cs=>
  obtain⟨us,h1,h2,h3⟩:=h
  exact⟨us,h1,by simp[h2],ec (g9 hp) h3⟩
 |gone=>exact h
 |arr k xs=>exact h
 |arrT t k xs=>exact h
 |mp ag ks vs=>exact h
 |obj o=>exact h
 |res ρ s=>exact h
theorem gL {σ:Sg}{i j:Nat}{p:Pub}{f:Ent}(h:look j ((i,.gone)::ph i p σ)=some f):(j=i∧f=.gone)∨(j≠i∧∃e,look j σ=some e∧f=wB i p e):=by
 rw[ae]at h
 split at h
 ·next e=>exact .inl ⟨e,(Option.some.inj h).symm⟩
 ·next e=>
  rw[ph,cA]at h
  simp only[Option.map_eq_some_iff]at h
  obtain⟨x,hx,rfl⟩:=h
  exact .inr ⟨e,x,hx,rfl⟩
theorem St.pub {X:Cx}{γ:Ids}{H:HF}{t:T}{σ:Sg}{a:Act}{w:World}(s:St X γ H t σ a w){i:Nat}{e:Ent}{p:Pub}(hi:look i σ=some e)(hp:kB e=some p):
 ∃H',HLe H H'∧lh γ H' i p∧St X γ H' t ((i,.gone)::ph i p σ) a w:=by
 obtain⟨H',ok,k⟩:=s.mem.pub hi hp
 have key:=s.step (σr:=σ.filter fun q=>!Nat.beq q.1 i) (d:=none) (V:=.junk) (v:=undef) k (fun b hb=>⟨i,e,hi,by rw[ba (q:=fun j=>!Nat.beq j i)];simp,hb⟩) (fun j f hj=>by
  rw[ba (q:=fun j=>!Nat.beq j i)]at hj
  split at hj
  ·exact hj
  ·cases hj) (fun j f hj=>by
  rw[ba (q:=fun j=>!Nat.beq j i)]at hj
  rw[ae]
  split at hj
  ·next h1=>
   have:j≠i:=fun e=>by subst e;simp at h1
   rw[if_neg this];rfl
  ·cases hj) (fun _ _ _=>⟨rfl,fun _ _=>rfl⟩) (fun _ _=>rfl) (fun _ _ _ _ _=>rfl) rfl (.junk _)
 have old:∀j f,j≠i→look j σ=some f→look j ([(i,Ent.gone)]++σ.filter fun q=>!Nat.beq q.1 i)=some f:=fun j f hj hf=>by
  rw[List.singleton_append,ae,if_neg hj,ba (q:=fun j=>!Nat.beq j i)]
  have:Nat.beq j i=false:=by rw[←Bool.not_eq_true,Nat.beq_eq];exact hj
  rw[this];exact hf
 refine⟨H',k.hle,ok,key.lam,key.round,?_,key.size,key.pinned,key.tmp,⟨key.mem.keep,key.mem.hle,key.mem.hnew,key.mem.hok,fun j f hj=>?_,fun j f hj b hb=>?_,fun j f hj b hb=>?_,fun j f l f' b hj hl hb hb'=>?_⟩⟩
 ·obtain⟨ms,h1,h2⟩:=key.defers
  refine⟨ms,h1,h2.1,fun b hb=>⟨(h2.2 b hb).1,(h2.2 b hb).2.1,?_⟩⟩
  rintro⟨j,f,hj,hbk⟩
  rcases gL hj with⟨rfl,rfl⟩|⟨hne,x,hx,rfl⟩
  ·exact hbk.elim
  ·rw[mZ]at hbk
   exact(h2.2 b hb).2.2 ⟨j,x,old j x hne hx,hbk⟩
 ·rcases gL hj with⟨rfl,rfl⟩|⟨hne,x,hx,rfl⟩
  ·trivial
  ·exact(key.mem.ent j x (old j x hne hx)).sub ok
 ·rcases gL hj with⟨rfl,rfl⟩|⟨hne,x,hx,rfl⟩
  ·exact hb.elim
  ·rw[mZ]at hb
   exact key.mem.free j x (old j x hne hx) b hb
 ·rcases gL hj with⟨rfl,rfl⟩|⟨hne,x,hx,rfl⟩
  ·exact hb.elim
  ·rw[mZ]at hb
   exact key.mem.fresh j x (old j x hne hx) b hb
 ·rcases gL hj with⟨rfl,rfl⟩|⟨hne,x,hx,rfl⟩
  ·exact hb.elim
  ·rcases gL hl with⟨rfl,rfl⟩|⟨hne',y,hy,rfl⟩
   ·exact hb'.elim
   ·rw[mZ]at hb hb'
    exact key.mem.apart j x l y b (old j x hne hx) (old l y hne' hy) hb hb'
theorem St.tmps {X:Cx}{γ:Ids}{H:HF}{t t':T}{σ:Sg}{a:Act}{w:World}(s:St X γ H t σ a w)(h:TmpOk γ H t' a.tmps):St X γ H t' σ a w:=
 ⟨s.lam,s.round,s.defers,s.size,s.pinned,h,s.mem⟩
theorem TmpOk.sub {γ:Ids}{H:HF}{t:T}{tm:Array Value}{i:Nat}{p:Pub}(hp:lh γ H i p)(h:TmpOk γ H t tm):TmpOk γ H (DP i p t) tm:=fun j b hj=>by
 rw[DP,gM]at hj
 simp only[Option.map_eq_some_iff]at hj
 obtain⟨x,hx,rfl⟩:=hj
 obtain⟨u,hu,r⟩:=h j x hx
 exact⟨u,hu,g9 hp r⟩
theorem SJ.pub {X:Cx}{t:T}{σ:Sg}(i:Nat){e:Ent}{p:Pub}(hi:look i σ=some e)(hp:kB e=some p):SJ X t σ (DP i p t) ((i,.gone)::ph i p σ):=fun γ H a w s=>by
 obtain⟨H',_,ok,s'⟩:=s.pub hi hp
 exact⟨γ,H',s'.tmps (s'.tmp.sub ok)⟩
theorem SJ.pubA {X:Cx}{t:T}{σ:Sg}(i j:Nat){k n:Nat}{xs:List (List D)}(hi:look i σ=some (.arr k xs))(hj:look j t=some (.arr i k n))(hn:n≤xs.length)(hm:n≤9223372036854775807):SJ X t σ ((j,.d (.sl k (xs.take n)))::t) ((i,.gone)::ph i (.a k xs) σ):=fun γ H a w s=>by
 obtain⟨H',_,ok,s'⟩:=s.pub hi rfl
 refine⟨γ,H',s'.tmps fun l b hl=>?_⟩
 rw[ae]at hl
 split at hl
 ·next e=>
  subst e
  simp only[Option.some.injEq]at hl;subst hl
  obtain⟨u,hu,r⟩:=s'.tmp _ _ hj
  refine⟨u,hu,?_⟩
  cases r with
  |arr _ _ _ A h1 hA=>exact .d _ _ (ok n A hn h1 hA hm)
 ·exact s'.tmp l b hl
inductive PubR:Sg→AV→Sg→AV→Prop where
 |wk {σ σ':Sg} {r:AV} (h:Wk σ' σ):PubR σ r σ' r
 |view {σ σ':Sg} {r r1 r':AV} (hv:∀γ H u,Rep γ H r u→Rep γ H r1 u) (k:PubR σ r1 σ' r'):PubR σ r σ' r'
 |pub {σ σ':Sg} {r r1 r':AV} (i:Nat) {e:Ent} {p:Pub} (hi:look i σ=some e) (hp:kB e=some p) (hv:∀γ H u,lh γ H i p→Rep γ H r u→Rep γ H r1 u) (k:PubR ((i,.gone)::ph i p σ) r1 σ' r'):PubR σ r σ' r'
theorem PubR.sound {X:Cx}{σ σ':Sg}{r r':AV}(h:PubR σ r σ' r'):∀{γ:Ids}{H:HF}{t:T}{a:Act}{w:World}{v:Value},St X γ H t σ a w→Rep γ H r v→∃H',St X γ H' t σ' a w∧Rep γ H' r' v:=by
 induction h with
 |wk h=>exact fun s rr=>⟨_,s.wk (Wk.refl _) h,rr⟩
 |view hv _ ih=>exact fun s rr=>ih s (hv _ _ _ rr)
 |pub i hi hp hv _ ih=>
  intro γ H t a w v s rr
  obtain⟨H',hle,ok,s'⟩:=s.pub hi hp
  exact ih s' (hv _ _ _ ok (rr.mono hle))
end Go.Gv
end
section
namespace Go.Gv
open Go.RowKit
theorem dW {P:Program}{H:HF}{k:Nat}{ys:List (List D)}{u:Value}(r:RepD H (.sl k ys) u):
 ∃(A:Option Addr)(c:Nat)(vs:List Value),u=.slice A ys.length c∧(∀w:World,(∀b o v,H.c b o=some v→w.cell? ⟨b,o,none⟩=some v)→(Builtin.firstCells k ys.length u).run P w=.ok vs.toArray w)∧vs.length=ys.length*k∧(∀v,v∈vs→v.oneCell'=true)∧
  ∀(j l:Nat)(cs:List D)(a:D)(v:Value),ys[j]?=some cs→cs[l]?=some a→vs[j*k+l]?=some v→RepD H a v:=by
 cases r with
 |sl _ _ A c b o us hk hn hc hA hH hrep=>
  by_cases h0:ys.length=0
  ·have hy:ys=[]:=List.length_eq_zero_iff.1 h0
   subst hy
   refine⟨A,c,[],rfl,fun w _=>?_,by simp,by simp,by simp⟩
   cases A<;>simp[Builtin.firstCells,loadCells,loadCellsFrom]
  ·have hA':=hA (by omega)
   subst hA'
   let f:Nat→Value:=fun p=>us (p/k) (p % k)
   have hcell:∀w:World,(∀b o v,H.c b o=some v→w.cell? ⟨b,o,none⟩=some v)→∀p,p<ys.length*k→w.cell? ⟨b,o+p,none⟩=some (f p):=fun w hok p hp=>by
    have hk0:0<k:=by
     rcases Nat.eq_zero_or_pos k with h|h
     ·subst h;simp at hp
     ·exact h
    have h1:p/k<ys.length:=(Nat.div_lt_iff_lt_mul hk0).2 hp
    have:=hok _ _ _ (hH (p/k) (p % k) h1 (Nat.mod_lt _ hk0))
    rw[show o+p/k*k+p % k=o+p from by rw[Nat.add_assoc,Nat.div_add_mod']]at this
    exact this
   refine⟨_,c,(List.range (ys.length*k)).map f,rfl,fun w hok=>?_,by simp,?_,?_⟩
   ·have:=du (P:=P) (w:=w) (b:=b) (vs:=f) (ys.length*k) o 0 #[] (fun j hj=>by simpa using hcell w hok j hj)
    simp only[Builtin.firstCells,loadCells]
    rw[this,List.range_eq_range']
    simp
   ·intro v hv
    simp only[List.mem_map,List.mem_range]at hv
    obtain⟨p,hp,rfl⟩:=hv
    have hk0:0<k:=by
     rcases Nat.eq_zero_or_pos k with h|h
     ·subst h;simp at hp
     ·exact h
    have h1:p/k<ys.length:=(Nat.div_lt_iff_lt_mul hk0).2 hp
    have h2:(ys[p/k]).length=k:=hk _ (List.getElem_mem h1)
    exact(ky (hrep (p/k) (p % k) ys[p/k] ((ys[p/k])[p % k]'(by rw[h2];exact Nat.mod_lt _ hk0)) (by simp[h1]) (by rw[List.getElem?_eq_getElem]))).1
   ·intro j l cs a v hj hl hv
    have h1:l<k:=by rw[←hk cs (aQ hj)];exact(List.getElem?_eq_some_iff.1 hl).1
    have hv':v=f (j*k+l):=by
     have:=(List.getElem?_eq_some_iff.1 hv).2
     simp at this;exact this.symm
    have e1:(j*k+l)/k=j:=by
     rw[Nat.mul_comm,Nat.mul_add_div (by omega)];simp[Nat.div_eq_of_lt h1]
    have e2:(j*k+l) % k=l:=by
     rw[Nat.mul_comm,Nat.mul_add_mod];exact Nat.mod_eq_of_lt h1
    rw[hv']
    show RepD H a (us ((j*k+l)/k) ((j*k+l) % k))
    rw[e1,e2]
    exact hrep j l cs a hj hl
theorem cF {H:HF}{k:Nat}{ys:List (List D)}{u:Value}(r:RepD H (.sl k ys) u):(∀cs,cs∈ys→cs.length=k)∧ys.length≤9223372036854775807:=by
 cases r with
 |sl _ _ A c b o us hk hn hc hA hH hrep=>exact⟨hk,hc⟩
theorem eF {P:Program}{w:World}{st xt el:TypeId}{ty:TypeId}{k:Nat}{A:Option Addr}{n c m:Nat}{x:Value}{vs:List Value}(hu:P.underlying st=some (.slice el))(hx:P.underlying xt=some (.slice el))
 (hz:∀w,(sizeOf el).run P w=.ok k w)(hl:∀w,(Builtin.lenOf x).run P w=.ok m w)(hf:(Builtin.firstCells k m x).run P w=.ok vs.toArray w)(hroom:n+m≤c):
 (Builtin.append_ #[st,xt] ty #[.slice A n c,x]).run P w=(match A with
  |some a=>(storeCells (a.add (n*k)) vs).run P w
  |none=>.ok () w).andThen fun _ w=>.ok (.slice A (n+m) c) w:=by
 cases A with
 |none=>simp[Builtin.append_,underlying,hu,hx,hz,hl,hf,hroom]
 |some a=>simp[Builtin.append_,underlying,hu,hx,hz,hl,hf,hroom]
theorem uk (n c:Nat)(h:c<n):Builtin.nextslicecap n c≤3*n+4096:=by
 unfold Builtin.nextslicecap
 split
 ·omega
 ·split
  ·omega
  ·unfold Builtin.growBy;split
   ·omega
   ·unfold Builtin.growBy;split
    ·omega
    ·unfold Builtin.growBy;split
     ·omega
     ·unfold Builtin.growBy;split
      ·omega
      ·unfold Builtin.growBy;omega
theorem eG {P:Program}{w:World}{st xt el:TypeId}{ty:TypeId}{k bytes:Nat}{z:Value}{A:Option Addr}{n c m:Nat}{x:Value}{us vs:List Value}(hu:P.underlying st=some (.slice el))(hx:P.underlying xt=some (.slice el))
 (hz:∀w,(sizeOf el).run P w=.ok k w)(hzv:∀w,(zeroValue el).run P w=.ok z w)(hb:∀w,((fun i:TypeInfo=>i.bytes) <$>typeInfo el).run P w=.ok bytes w)(hl:∀w,(Builtin.lenOf x).run P w=.ok m w)
 (hf:∀w':World,w'.heap=w.heap→(Builtin.firstCells k m x).run P w'=.ok vs.toArray w')(hs:∀w':World,w'.heap=w.heap→(Builtin.firstCells k n (.slice A n c)).run P w'=.ok us.toArray w')
 (hroom:c<n+m)(hbytes:(3*(n+m)+4096)*bytes≤281474976710656)(hb0:bytes≠0):
 ∃cap,n+m≤cap∧(Builtin.append_ #[st,xt] ty #[.slice A n c,x]).run P w=
  .ok (.slice (some ⟨w.heap.size,0,none⟩) (n+m) cap) (World.alloc w.drew (.cells (us++vs++(Builtin.zeroCells z.cells (cap-(n+m))).toList).toArray el)):=by
 have hbi:∃ti:TypeInfo,(∀w,(typeInfo el).run P w=.ok ti w)∧ti.bytes=bytes:=by
  unfold typeInfo at hb ⊢
  have:=hb w
  cases hi:P.info? el with
  |none=>simp[hi]at this
  |some ti=>simp[hi]at this;exact⟨ti,fun w=>by simp[hi],this⟩
 obtain⟨ti,hti,htb⟩:=hbi
 have hnc:Builtin.nextslicecap (n+m) c*ti.bytes≤281474976710656:=by
  rw[htb]
  exact Nat.le_trans (Nat.mul_le_mul_right _ (uk _ _ hroom)) hbytes
 have hroom':¬(n+m≤c):=by omega
 refine⟨Question.cut (.appendCap (n+m) c el) (w.tape w.drawn (.appendCap (n+m) c el)),by simp[Question.cut],?_⟩
 have e1:=hf w.drew rfl
 have e2:=hs w.drew rfl
 have hnb:¬((↑(n+m):Int)>IntKind.i64.max∧(False∨ti.bytes=0)):=fun h=>by
  rcases h.2 with h|h
  ·exact h
  ·exact hb0 (by rw[←htb];exact h)
 have hn2:¬(Builtin.nextslicecap (n+m) c*ti.bytes>281474976710656):=by omega
 have hn3:¬(Builtin.nextslicecap (n+m) c*ti.bytes>2^48):=hn2
 have hbne:ti.bytes≠0:=by rw[htb];exact hb0
 simp[Builtin.append_,underlying,hu,hx,hz,hl,hroom',hti,hn2,hbne,Question.forced,e1,e2,hzv,newRow]
 congr 2
 apply Array.toList_inj.1
 simp
theorem kw {α:Type}:∀(vs us:List α)(p j:Nat),p+vs.length≤us.length→(bI us p vs)[j]?=if p≤j∧j<p+vs.length then vs[j-p]? else us[j]?
 |[],us,p,j,_=>by simp only[bI,List.length_nil,Nat.add_zero];rw[if_neg (by omega)]
 |v::vs,us,p,j,h=>by
  simp only[List.length_cons]at h
  simp only[bI]
  rw[kw vs (us.set p v) (p+1) j (by simp;omega)]
  by_cases h1:p+1≤j∧j<p+1+vs.length
  ·rw[if_pos h1,if_pos (by simp;omega)]
   rw[show j-p=(j-(p+1))+1 from by omega];simp
  ·rw[if_neg h1,List.getElem?_set]
   by_cases h2:p=j
   ·subst h2;rw[if_pos rfl,if_pos (by omega),if_pos (by simp)];simp
   ·rw[if_neg h2,if_neg (by simp;omega)]
theorem fL {R:D→Value→Prop}{k:Nat}{xs ys:List (List D)}{us vs us':List Value}(hxk:∀cs,cs∈xs→cs.length=k)(hyk:∀cs,cs∈ys→cs.length=k)
 (h1:∀(j l:Nat)(cs:List D)(a:D)(u:Value),xs[j]?=some cs→cs[l]?=some a→us[j*k+l]?=some u→R a u)
 (h2:∀(j l:Nat)(cs:List D)(a:D)(u:Value),ys[j]?=some cs→cs[l]?=some a→vs[j*k+l]?=some u→R a u)
 (he1:∀p,p<xs.length*k→us'[p]?=us[p]?)(he2:∀p,p<ys.length*k→us'[xs.length*k+p]?=vs[p]?):
 ∀(j l:Nat)(cs:List D)(a:D)(u:Value),(xs++ys)[j]?=some cs→cs[l]?=some a→us'[j*k+l]?=some u→R a u:=by
 intro j l cs a u hj hl hu
 have mul_lt:∀{n j l:Nat},j<n→l<k→j*k+l<n*k:=fun{n j l} h h'=>by
  calc j*k+l<j*k+k:=by omega
   _=(j+1)*k:=by rw[Nat.add_mul];omega
   _≤n*k:=Nat.mul_le_mul_right _ (by omega)
 by_cases hx:j<xs.length
 ·rw[List.getElem?_append_left hx]at hj
  have hlk:l<k:=by rw[←hxk cs (aQ hj)];exact(List.getElem?_eq_some_iff.1 hl).1
  rw[he1 _ (mul_lt hx hlk)]at hu
  exact h1 j l cs a u hj hl hu
 ·rw[List.getElem?_append_right (by omega)]at hj
  have hlk:l<k:=by rw[←hyk cs (aQ hj)];exact(List.getElem?_eq_some_iff.1 hl).1
  have hjy:j-xs.length<ys.length:=(List.getElem?_eq_some_iff.1 hj).1
  have e:j*k+l=xs.length*k+((j-xs.length)*k+l):=by
   rw[←Nat.add_assoc,←Nat.add_mul,show xs.length+(j-xs.length)=j from by omega]
  rw[e,he2 _ (mul_lt hjy hlk)]at hu
  exact h2 _ l cs a u hj hl hu
def drop (i:Nat)(a:AV):AV:=match aP i a with
 |true=>.junk
 |false=>a
def bY (i:Nat)(t:T):T:=t.map fun q=>(q.1,drop i q.2)
def je (i:Nat):Ent→Ent
 |.cells cs=>.cells (cs.map (drop i))
 |.cellsT t cs=>.cellsT t (cs.map (drop i))
 |e=>e
def bF (i:Nat)(σ:Sg):Sg:=σ.map fun q=>(q.1,je i q.2)
theorem oI {γ:Ids}{H:HF}{i:Nat}{a:AV}{u:Value}(r:Rep γ H a u):Rep γ H (drop i a) u:=by
 unfold drop;split
 ·exact .junk u
 ·exact r
theorem oJ (i:Nat)(a:AV):aP i (drop i a)=false:=by
 unfold drop;split
 ·rfl
 ·assumption
theorem xr (i:Nat)(e:Ent):aJ i (je i e)=false:=by
 cases e with
 |cells cs=>
  simp only[je,aJ,List.any_map,List.any_eq_false,Function.comp_apply]
  intro x _
  rw[oJ];decide
 |cellsT t cs=>
  simp only[je,aJ,List.any_map,List.any_eq_false,Function.comp_apply]
  intro x _
  rw[oJ];decide
 |_=>rfl
theorem lc (γ:Ids)(j i:Nat)(e:Ent):blk γ j (je i e)=blk γ j e:=by cases e<;>rfl
theorem EntOk.drop {γ:Ids}{H:HF}{w:World}{i j:Nat}{e:Ent}(h:EntOk γ H w j e):EntOk γ H w j (je i e):=by
 cases e with
 |cells cs=>
  obtain⟨t,us,h1,h2,h3⟩:=h
  exact⟨t,us,h1,by simp[h2],ec oI h3⟩
 |cellsT t cs=>
  obtain⟨us,h1,h2,h3⟩:=h
  exact⟨us,h1,by simp[h2],ec oI h3⟩
 |gone=>exact h
 |arr k xs=>exact h
 |arrT t k xs=>exact h
 |mp ag ks vs=>exact h
 |obj o=>exact h
 |res ρ s=>exact h
theorem dA {σ:Sg}{i j:Nat}{f:Ent}(h:look j (bF i σ)=some f):∃e,look j σ=some e∧f=je i e:=by
 rw[bF,cA]at h
 simp only[Option.map_eq_some_iff]at h
 obtain⟨x,hx,rfl⟩:=h
 exact⟨x,hx,rfl⟩
theorem St.drop {X:Cx}{γ:Ids}{H:HF}{t:T}{σ:Sg}{a:Act}{w:World}(s:St X γ H t σ a w)(i:Nat):St X γ H (bY i t) (bF i σ) a w:=by
 refine⟨s.lam,s.round,?_,s.size,s.pinned,fun j b hj=>?_,⟨s.mem.keep,s.mem.hle,s.mem.hnew,s.mem.hok,fun j f hj=>?_,fun j f hj b hb=>?_,fun j f hj b hb=>?_,fun j f l f' b hj hl hb hb'=>?_⟩⟩
 ·obtain⟨ms,h1,h2⟩:=s.defers
  refine⟨ms,h1,h2.1,fun b hb=>⟨(h2.2 b hb).1,(h2.2 b hb).2.1,?_⟩⟩
  rintro⟨j,f,hj,hbk⟩
  obtain⟨x,hx,rfl⟩:=dA hj
  rw[lc]at hbk
  exact(h2.2 b hb).2.2 ⟨j,x,hx,hbk⟩
 ·rw[bY,gM]at hj
  simp only[Option.map_eq_some_iff]at hj
  obtain⟨x,hx,rfl⟩:=hj
  obtain⟨u,hu,r⟩:=s.tmp j x hx
  exact⟨u,hu,oI r⟩
 ·obtain⟨x,hx,rfl⟩:=dA hj
  exact(s.mem.ent j x hx).drop
 ·obtain⟨x,hx,rfl⟩:=dA hj
  rw[lc]at hb;exact s.mem.free j x hx b hb
 ·obtain⟨x,hx,rfl⟩:=dA hj
  rw[lc]at hb;exact s.mem.fresh j x hx b hb
 ·obtain⟨x,hx,rfl⟩:=dA hj
  obtain⟨y,hy,rfl⟩:=dA hl
  rw[lc]at hb hb';exact s.mem.apart j x l y b hx hy hb hb'
section append
variable {X:Cx} {d:Option Nat} {ty:TypeId} {pos:String} {aft:Array Edge} {g:Option (Nat×Bool)} {t:T} {σ:Sg} {K:T→Sg→Prop}
theorem dI {P:Program}{w:World}{A:Option Addr}{n c:Nat}:(Builtin.lenOf (.slice A n c)).run P w=.ok n w:=rfl
theorem gF {α:Type}:∀(vs us:List α)(p j:Nat),p+vs.length≤us.length→(bI us p vs)[j]?=if p≤j∧j<p+vs.length then vs[j-p]? else us[j]?
 |[],us,p,j,_=>by simp only[bI,List.length_nil,Nat.add_zero];rw[if_neg (by omega)]
 |v::vs,us,p,j,h=>by
  simp only[List.length_cons]at h
  simp only[bI]
  rw[gF vs (us.set p v) (p+1) j (by simp;omega)]
  by_cases h1:p+1≤j∧j<p+1+vs.length
  ·rw[if_pos h1,if_pos (by simp;omega)]
   rw[show j-p=(j-(p+1))+1 from by omega];simp
  ·rw[if_neg h1,List.getElem?_set]
   by_cases h2:p=j
   ·subst h2;rw[if_pos rfl,if_pos (by omega),if_pos (by simp)];simp
   ·rw[if_neg h2,if_neg (by simp;omega)]
theorem St.moved {γ:Ids}{H:HF}{a:Act}{w w':World}{i n:Nat}{e e':Ent}(s:St X γ H t σ a w)(hi:look i σ=some e)(hpin:i∉X.pin)
 (k:Mem w H (fun _=>False) (upd γ i ⟨w.heap.size,n,fun _=>False⟩) H [(i,e')] w'){V:AV}{v:Value}(hN:dOk d X.N=true)(r:Rep (upd γ i ⟨w.heap.size,n,fun _=>False⟩) H V v):
 St X (upd γ i ⟨w.heap.size,n,fun _=>False⟩) H (putT d V (bY i t)) ((i,e')::bF i σ) (a.put d v) w':=by
 have o:∀j,j≠i→γ j=upd γ i ⟨w.heap.size,n,fun _=>False⟩ j:=fun j hj=>(cN γ _ hj).symm
 have s1:=s.drop i
 have key:=s1.step (σ':=[(i,e')]) (σr:=(bF i σ).filter fun p=>!Nat.beq p.1 i) k (fun _ h=>h.elim) (fun j f hj=>?_) (fun j f hj=>?_) (fun j f hj=>?_) (fun j hj=>o j fun e=>hpin (e▸hj)) (fun j x hj l hl=>o l fun e=>?_) hN r
 ·refine key.wk (Wk.refl _) fun j f hj=>?_
  rw[ae]at hj
  rw[List.singleton_append,ae]
  split at hj
  ·next e1=>rw[if_pos e1];exact hj
  ·next e1=>
   rw[if_neg e1,ba (q:=fun j=>!Nat.beq j i)]
   have:Nat.beq j i=false:=by rw[←Bool.not_eq_true,Nat.beq_eq];exact e1
   rw[this];exact hj
 ·rw[ba (q:=fun j=>!Nat.beq j i)]at hj
  split at hj
  ·exact hj
  ·cases hj
 ·rw[ba (q:=fun j=>!Nat.beq j i)]at hj
  rw[ae]
  split at hj
  ·next h1=>
   have:j≠i:=fun e=>by subst e;simp at h1
   rw[if_neg this];rfl
  ·cases hj
 ·rw[ba (q:=fun j=>!Nat.beq j i)]at hj
  split at hj
  ·next h1=>
   have hne:j≠i:=fun e=>by subst e;simp at h1
   obtain⟨x,hx,rfl⟩:=dA hj
   exact⟨o j hne,fun l hl=>o l fun e=>by subst e;rw[xr]at hl;cases hl⟩
  ·cases hj
 ·subst e
  rw[bY,gM]at hj
  simp only[Option.map_eq_some_iff]at hj
  obtain⟨y,hy,rfl⟩:=hj
  rw[oJ]at hl;cases hl
end append
end Go.Gv
end
section
namespace Go.Gv
open Go.RowKit
section append
variable {X:Cx} {d:Option Nat} {ty:TypeId} {pos:String} {aft:Array Edge} {g:Option (Nat×Bool)} {t:T} {σ:Sg} {K:T→Sg→Prop}
theorem xZ {x y:Operand}{st xt el:TypeId}{i k n bytes:Nat}{z:Value}{xs ys:List (List D)}{av:AV}(hN:dOk d X.N=true)(hx:ge t x=some (.arr i k n))(hy:ge t y=some av)(hi:look i σ=some (.arr k xs))(hn:xs.length=n)(hel:elems av=some (k,ys))
 (hu:X.P.underlying st=some (.slice el))(hxu:X.P.underlying xt=some (.slice el))(hz:∀w,(sizeOf el).run X.P w=.ok k w)(hzv:∀w,(zeroValue el).run X.P w=.ok z w)(hzl:z.cells.size=k)
 (hb:∀w,((fun i:TypeInfo=>i.bytes) <$>typeInfo el).run X.P w=.ok bytes w)(hb0:bytes≠0)(hbytes:(3*(n+ys.length)+4096)*bytes≤281474976710656)(hpin:i∉X.pin)
 (kk:K (putT d (.arr i k (n+ys.length)) (bY i t)) ((i,.arr k (xs++ys))::bF i σ)):
 OpJ X ⟨d,.call {callee:=.builtin .append,args:=#[x,y],argTypes:=#[st,xt]},ty,pos,aft,g⟩ t σ K:=by
 intro γ H a w s next Q' hk
 have hr:=aT s.tmp hx
 generalize hq:a.eval x=q at hr
 cases hr with
 |arr _ _ _ A hncap hA=>
 have hry:=dy (aT s.tmp hy) hel
 obtain⟨hyk,hylen⟩:=cF hry
 obtain⟨B,cy,vs,hqy,hfc,hvl,hvone,hvrep⟩:=dW (P:=X.P) hry
 obtain⟨hle,hxk,hreal⟩:=s.mem.ent i _ hi
 have hexec:∀r:Result Value,(Builtin.append_ #[st,xt] ty #[.slice A n (γ i).n,a.eval y]).run X.P w=r→(execOp a.eval ⟨d,.call {callee:=.builtin .append,args:=#[x,y],argTypes:=#[st,xt]},ty,pos,aft,g⟩).run X.P w=
  r.andThen fun v w=>.ok (.value v) w:=fun r h=>by
  simp only[execOp,resolve,invoke,builtin,List.map_toArray,List.map_cons,List.map_nil,Sem.run_bind,Sem.run_pure,Result.andThen_ok,hq,h]
 have s1:=s.drop i
 have hi1:look i (bF i σ)=some (.arr k xs):=by rw[bF,cA,hi];rfl
 subst hn
 by_cases hroom:xs.length+ys.length≤(γ i).n
 ·have hrun:=eF (P:=X.P) (w:=w) (ty:=ty) (A:=A) (n:=xs.length) (c:=(γ i).n) hu hxu hz (fun w=>by rw[hqy];exact dI) (hfc w s.mem.hok.c) hroom
  by_cases hc0:0<(γ i).n
  ·have hA':=hA hc0
   subst hA'
   obtain⟨tt,us,h3,h4,h5⟩:=hreal hc0
   have hfit:xs.length*k+0+vs.length≤us.length:=by
    rw[h4,hvl,Nat.add_zero,←Nat.add_mul];exact Nat.mul_le_mul_right _ hroom
   obtain⟨w',hw1,hw2,hw3⟩:=gB (P:=X.P) vs w us (xs.length*k) 0 h3 hfit hvone
   simp only[gk,Nat.zero_add,hw1,Result.andThen_ok]at hrun
   rw[aG (by simp),hexec _ hrun,Result.andThen_ok,Oper.uponIn_value]
   simp only[Nat.add_zero]at hw2 hfit
   have he:EntOk γ H w' i (.arr k (xs++ys)):=⟨by rw[List.length_append];exact hroom,fun cs hcs=>by rcases List.mem_append.1 hcs with h|h;exact hxk cs h;exact hyk cs h,fun _=>⟨tt,_,hw2,by rw[bV];exact h4,
    fL hxk hyk h5 hvrep (fun p hp=>by rw[gF _ _ _ _ hfit,if_neg (by omega)]) (fun p hp=>by rw[gF _ _ _ _ hfit,if_pos (by omega)];congr 1;omega)⟩⟩
   have hm:=s1.mem.turn (e:=.arr k xs) (e':=.arr k (xs++ys)) hi1 ⟨rfl,hc0⟩ hw3 he fun b hb=>hb.1
   exact hk γ H _ _ _ w' (s1.turn (d:=d) (V:=.arr i k (xs.length+ys.length)) hi1 ⟨rfl,hc0⟩ hm hN (.arr i k _ _ hroom fun _=>rfl)) kk
  ·have hx0:xs.length=0:=by omega
   have hy0:ys.length=0:=by omega
   have hx0':xs=[]:=List.length_eq_zero_iff.1 hx0
   have hy0':ys=[]:=List.length_eq_zero_iff.1 hy0
   subst hx0';subst hy0'
   have hv0:vs=[]:=List.length_eq_zero_iff.1 (by rw[hvl];simp)
   subst hv0
   have hrun':(Builtin.append_ #[st,xt] ty #[.slice A 0 (γ i).n,a.eval y]).run X.P w=.ok (.slice A 0 (γ i).n) w:=by
    simp only[List.length_nil]at hrun
    rw[hrun];cases A<;>simp[storeCells]
   rw[aG (by simp),hexec _ hrun',Result.andThen_ok,Oper.uponIn_value]
   have key:=s1.calm (d:=d) (V:=.arr i k 0) (v:=.slice A 0 (γ i).n) (s1.mem.refl γ) hN (.arr i k 0 A (Nat.zero_le _) hA)
   exact hk γ H _ _ _ w (key.wk (Wk.refl _) (Wk.cons hi1 (Wk.refl _))) kk
 ·have hs:∃us:List Value,us.length=xs.length*k∧(∀w':World,w'.heap=w.heap→(Builtin.firstCells k xs.length (.slice A xs.length (γ i).n)).run X.P w'=.ok us.toArray w')∧
   ∀(j l:Nat)(cs:List D)(a:D)(u:Value),xs[j]?=some cs→cs[l]?=some a→us[j*k+l]?=some u→RepD H a u:=by
   by_cases hc0:0<(γ i).n
   ·have hA':=hA hc0
    subst hA'
    obtain⟨tt,us,h3,h4,h5⟩:=hreal hc0
    have hlt:xs.length*k≤us.length:=by rw[h4];exact Nat.mul_le_mul_right _ hle
    refine⟨us.take (xs.length*k),by simp;omega,fun w' hw'=>?_,fun j l cs a u hj hl hu=>?_⟩
    ·have:=du (P:=X.P) (w:=w') (b:=(γ i).b) (vs:=fun p=>us.getD p undef) (xs.length*k) 0 0 #[] (fun p hp=>by
      have h6:w'.heap[(γ i).b]?=some (.cells us.toArray tt (0,0)):=by rw[hw'];exact h3
      rw[aU h6];simp[List.getElem?_eq_getElem (show p<us.length by omega)])
     simp only[Builtin.firstCells,loadCells]
     rw[this]
     congr 1
     apply Array.toList_inj.1
     simp only[List.nil_append,List.append_toArray,List.toList_toArray,Array.toList_append]
     apply List.ext_getElem?
     intro p
     simp only[List.getElem?_map,List.getElem?_take]
     by_cases hp:p<xs.length*k
     ·rw[if_pos hp,List.getElem?_range' (by omega)]
      simp[List.getElem?_eq_getElem (show p<us.length by omega)]
     ·rw[if_neg hp,List.getElem?_eq_none (by simp;omega)];rfl
    ·rw[List.getElem?_take]at hu
     split at hu
     ·exact h5 j l cs a u hj hl hu
     ·cases hu
   ·have hx0':xs=[]:=List.length_eq_zero_iff.1 (by omega)
    subst hx0'
    refine⟨[],by simp,fun w' _=>?_,by simp⟩
    cases A<;>simp[Builtin.firstCells,loadCells,loadCellsFrom]
  obtain⟨us,hul,hus,hurep⟩:=hs
  have hfc':∀w':World,w'.heap=w.heap→(Builtin.firstCells k ys.length (a.eval y)).run X.P w'=.ok vs.toArray w':=fun w' hw'=>hfc w' fun b o v h=>by
   have:=s.mem.hok.c b o v h
   simp only[World.cell?,hw']at this ⊢;exact this
  obtain⟨cap,hcap,hrun⟩:=eG (P:=X.P) (w:=w) (ty:=ty) (A:=A) (n:=xs.length) (c:=(γ i).n) (us:=us) (vs:=vs) hu hxu hz hzv hb (fun w=>by rw[hqy];exact dI) hfc' hus (by omega) hbytes hb0
  rw[aG (by simp),hexec _ hrun,Result.andThen_ok,Oper.uponIn_value]
  have hzc:(Builtin.zeroCells z.cells (cap-(xs.length+ys.length))).toList.length=(cap-(xs.length+ys.length))*k:=by
   simp[Builtin.zeroCells,hzl]
  have hm:=s.mem.drew.new i (.arr k (xs++ys)) (.cells (us++vs++(Builtin.zeroCells z.cells (cap-(xs.length+ys.length))).toList).toArray el) cap
   ⟨by rw[ap,List.length_append];exact hcap,fun cs hcs=>by rcases List.mem_append.1 hcs with h|h;exact hxk cs h;exact hyk cs h,fun _=>by
    rw[ap]
    refine⟨el,_,World.alloc_heap_new _ _,?_,?_⟩
    ·rw[List.length_append,List.length_append,hzc,hul,hvl,←Nat.add_mul,←Nat.add_mul]
     congr 1
     show xs.length+ys.length+(cap-(xs.length+ys.length))=cap
     omega
    ·refine fL hxk hyk hurep hvrep (fun p hp=>?_) (fun p hp=>?_)
     ·rw[List.append_assoc,List.getElem?_append_left (by omega)]
     ·rw[List.append_assoc,List.getElem?_append_right (by omega),hul,show xs.length*k+p-xs.length*k=p from by omega,List.getElem?_append_left (by omega)]⟩ (fun _ _ h=>by cases h)
  have hm':Mem w H (fun _=>False) (upd γ i ⟨w.heap.size,cap,fun _=>False⟩) H [(i,.arr k (xs++ys))] (w.drew.alloc (.cells (us++vs++(Builtin.zeroCells z.cells (cap-(xs.length+ys.length))).toList).toArray el)):=
   ⟨⟨hm.keep.os,hm.keep.tape,hm.keep.output,hm.keep.size,hm.keep.block⟩,hm.hle,⟨hm.hnew.c,hm.hnew.m⟩,hm.hok,hm.ent,hm.free,hm.fresh,hm.apart⟩
  refine hk _ H _ _ _ _ (s.moved hi hpin hm' (V:=.arr i k (xs.length+ys.length)) hN ?_) kk
  have:=Rep.arr (γ:=upd γ i ⟨w.heap.size,cap,fun _=>False⟩) (H:=H) i k (xs.length+ys.length) (some ⟨w.heap.size,0,none⟩)
  rw[ap]at this
  exact this hcap (fun _=>rfl)
theorem fm (i j k:Nat)(hj:look j t=some (.d (.v (.slice none 0 0))))(hf:am i t σ X.pin=true):SJ X t σ ((j,.arr i k 0)::t) ((i,.arr k [])::σ):=fun γ H a w s=>by
 have hm:Mem w H (fun _=>False) (upd γ i ⟨w.heap.size,0,fun _=>False⟩) H [(i,.arr k [])] w:=by
  have one:∀j f,look j ([(i,Ent.arr k [])]:Sg)=some f→j=i∧f=.arr k []:=fun j f hj=>by
   rw[ae]at hj
   split at hj
   ·next e'=>exact⟨e',by simpa using hj.symm⟩
   ·simp[look]at hj
  refine⟨Keeps.refl _ _,HLe.refl _,HNew.refl _ _ _,s.mem.hok,fun j f hj=>?_,fun j f hj b hb=>?_,fun j f hj b hb=>?_,fun j f l f' b hj hl hb hb'=>?_⟩
  ·obtain⟨rfl,rfl⟩:=one j f hj
   refine⟨Nat.zero_le _,fun _ h=>by simp at h,fun h=>?_⟩
   rw[ap]at h;simp at h
  ·obtain⟨rfl,rfl⟩:=one j f hj
   have:=hb.2;rw[ap]at this;simp at this
  ·obtain⟨rfl,rfl⟩:=one j f hj
   have:=hb.2;rw[ap]at this;simp at this
  ·obtain⟨rfl,rfl⟩:=one j f hj
   have:=hb.2;rw[ap]at this;simp at this
 have key:=s.new (d:=none) (V:=.junk) (v:=undef) (n:=0) hm hf rfl (.junk _)
 refine⟨_,H,key.tmps fun l b hl=>?_⟩
 rw[ae]at hl
 split at hl
 ·next e=>
  subst e
  simp only[Option.some.injEq]at hl;subst hl
  obtain⟨u,hu,r⟩:=s.tmp _ _ hj
  obtain rfl:=aV r
  refine⟨_,hu,?_⟩
  have:=Rep.arr (γ:=upd γ i ⟨w.heap.size,0,fun _=>False⟩) (H:=H) i k 0 none
  rw[ap]at this
  exact this (Nat.zero_le _) (fun h=>by simp at h)
 ·exact key.tmp l b hl
end append
end Go.Gv
end
section
namespace Go.Gv
open Go.RowKit
theorem OpJ.after {X:Cx}{o:Oper}{t:T}{σ:Sg}{K:T→Sg→Prop}(h:OpJ X o t σ (fun t σ=>∃t' σ',SJ X t σ t' σ'∧K t' σ')):OpJ X o t σ K:=
 fun γ H a w s next Q' hn=>h γ H a w s next Q' fun γ H t σ a' w' s' ⟨t',σ',hs,k⟩=>let⟨γ',H',s''⟩:=hs γ H a' w' s';hn γ' H' t' σ' a' w' s'' k
inductive FullIs:AV→Nat→List (List D)→Prop where
 |full (k:Nat) (xs:List (List D)):FullIs (.full k xs) k xs
 |nil (k:Nat):FullIs (.d (.v (.slice none 0 0))) k []
theorem FullIs.rep {a:AV}{k:Nat}{xs:List (List D)}(h:FullIs a k xs){γ:Ids}{H:HF}{u:Value}(r:Rep γ H a u):∃A,u=.slice A xs.length xs.length∧RepD H (.sl k xs) u:=by
 cases h with
 |full k xs=>
  cases r with
  |full _ _ A h=>exact⟨A,rfl,h⟩
 |nil k=>
  obtain rfl:=aV r
  exact⟨none,rfl,.sl k [] none 0 0 0 (fun _ _=>undef) (fun _ h=>by simp at h) (Nat.le_refl _) (by simp) (fun h=>by simp at h) (fun _ _ h=>by simp at h) (fun _ _ _ _ h=>by simp at h)⟩
theorem nP {w:World}{H:HF}(hok:HOk H w)(γ:Ids)(i k:Nat):Mem w H (fun _=>False) (upd γ i ⟨w.heap.size,0,fun _=>False⟩) H [(i,.arr k [])] w:=by
 have one:∀j f,look j ([(i,Ent.arr k [])]:Sg)=some f→j=i∧f=.arr k []:=fun j f hj=>by
  rw[ae]at hj
  split at hj
  ·next e'=>exact⟨e',by simpa using hj.symm⟩
  ·simp[look]at hj
 refine⟨Keeps.refl _ _,HLe.refl _,HNew.refl _ _ _,hok,fun j f hj=>?_,fun j f hj b hb=>?_,fun j f hj b hb=>?_,fun j f l f' b hj hl hb hb'=>?_⟩
 ·obtain⟨rfl,rfl⟩:=one j f hj
  refine⟨Nat.zero_le _,fun _ h=>by simp at h,fun h=>?_⟩
  rw[ap]at h;simp at h
 ·obtain⟨rfl,rfl⟩:=one j f hj
  have:=hb.2;rw[ap]at this;simp at this
 ·obtain⟨rfl,rfl⟩:=one j f hj
  have:=hb.2;rw[ap]at this;simp at this
 ·obtain⟨rfl,rfl⟩:=one j f hj
  have:=hb.2;rw[ap]at this;simp at this
theorem tQ (i k:Nat)(xs:List (List D))(a:AV):np i (.a k xs) a=a:=by
 cases a<;>simp only[np]<;>split<;>simp_all
theorem qL {α:Type}{f:α→α}(h:∀a,f a=a)(l:List α):l.map f=l:=by rw[show f=id from funext h,List.map_id]
theorem DR (i k:Nat)(xs:List (List D))(a:AV):wC i (.a k xs) a=a:=by
 cases a<;>simp only[wC,tQ,qL (tQ i k xs)]
theorem DQ (i k:Nat)(xs:List (List D))(a:AV):tP i (.a k xs) a=a:=by
 cases a<;>simp only[tP,tQ,qL (DR i k xs)]
theorem yr (i k:Nat)(xs:List (List D))(σ:Sg):ph i (.a k xs) σ=σ:=by
 unfold ph
 have:(fun q:Nat×Ent=>(q.1,wB i (.a k xs) q.2))=id:=by
  funext q
  obtain⟨j,e⟩:=q
  cases e<;>simp[wB,qL (DQ i k xs)]
 rw[this,List.map_id]
section append
variable {X:Cx} {ty:TypeId} {pos:String} {aft:Array Edge} {g:Option (Nat×Bool)} {t:T} {σ:Sg} {K:T→Sg→Prop}
theorem O.appendF {i:Nat}{x y:Operand}{st xt el:TypeId}{k bytes:Nat}{z:Value}{xs ys:List (List D)}{av0 av:AV}(hN:dOk (some i) X.N=true)(hx:ge t x=some av0)(hfu:FullIs av0 k xs)(hy:ge t y=some av)(hel:elems av=some (k,ys))
 (hu:X.P.underlying st=some (.slice el))(hxu:X.P.underlying xt=some (.slice el))(hz:∀w,(sizeOf el).run X.P w=.ok k w)(hzv:∀w,(zeroValue el).run X.P w=.ok z w)(hzl:z.cells.size=k)
 (hb:∀w,((fun i:TypeInfo=>i.bytes) <$>typeInfo el).run X.P w=.ok bytes w)(hb0:bytes≠0)(hbytes:(3*(xs.length+ys.length)+4096)*bytes≤281474976710656)(hf:am i t σ X.pin=true)(hne:ys≠[]∨xs=[])
 (kk:K ((i,.arr i k (xs.length+ys.length))::t) ((i,.arr k (xs++ys))::σ)):
 OpJ X ⟨some i,.call {callee:=.builtin .append,args:=#[x,y],argTypes:=#[st,xt]},ty,pos,aft,g⟩ t σ K:=by
 intro γ H a w s next Q' hk
 obtain⟨A,hq,hrx⟩:=hfu.rep (aT s.tmp hx)
 have hry:=dy (aT s.tmp hy) hel
 obtain⟨hxk,_⟩:=cF hrx
 obtain⟨hyk,hylen⟩:=cF hry
 obtain⟨B,cy,vs,hqy,hfc,hvl,hvone,hvrep⟩:=dW (P:=X.P) hry
 obtain⟨Bx,cx,us,hqx,hfx,hul,huone,hurep⟩:=dW (P:=X.P) hrx
 have hexec:∀r:Result Value,(Builtin.append_ #[st,xt] ty #[.slice A xs.length xs.length,a.eval y]).run X.P w=r→(execOp a.eval ⟨some i,.call {callee:=.builtin .append,args:=#[x,y],argTypes:=#[st,xt]},ty,pos,aft,g⟩).run X.P w=
  r.andThen fun v w=>.ok (.value v) w:=fun r h=>by
  simp only[execOp,resolve,invoke,builtin,List.map_toArray,List.map_cons,List.map_nil,Sem.run_bind,Sem.run_pure,Result.andThen_ok,hq,h]
 by_cases hroom:xs.length+ys.length≤xs.length
 ·have hy0:ys=[]:=List.length_eq_zero_iff.1 (by omega)
  have hx0:xs=[]:=by rcases hne with h|h;exact absurd hy0 h;exact h
  subst hx0;subst hy0
  have hrun:=eF (P:=X.P) (w:=w) (ty:=ty) (A:=A) (n:=0) (c:=0) hu hxu hz (fun w=>by rw[hqy];exact dI) (hfc w s.mem.hok.c) (Nat.le_refl _)
  have hv0:vs=[]:=List.length_eq_zero_iff.1 (by rw[hvl];simp)
  subst hv0
  have hrun':(Builtin.append_ #[st,xt] ty #[.slice A ([]:List (List D)).length ([]:List (List D)).length,a.eval y]).run X.P w=.ok (.slice A 0 0) w:=by
   simp only[List.length_nil]at hrun ⊢
   rw[hrun];cases A<;>simp[storeCells]
  rw[aG (by simp),hexec _ hrun',Result.andThen_ok,Oper.uponIn_value]
  refine hk _ H _ _ _ w (s.new (d:=some i) (V:=.arr i k 0) (v:=.slice A 0 0) (n:=0) (nP s.mem.hok γ i k) hf hN ?_) kk
  have:=Rep.arr (γ:=upd γ i ⟨w.heap.size,0,fun _=>False⟩) (H:=H) i k 0 A
  rw[ap]at this
  exact this (Nat.zero_le _) (fun h=>by simp at h)
 ·have hfc':∀w':World,w'.heap=w.heap→(Builtin.firstCells k ys.length (a.eval y)).run X.P w'=.ok vs.toArray w':=fun w' hw'=>hfc w' fun b o v h=>by
   have:=s.mem.hok.c b o v h
   simp only[World.cell?,hw']at this ⊢;exact this
  have hus:∀w':World,w'.heap=w.heap→(Builtin.firstCells k xs.length (.slice A xs.length xs.length)).run X.P w'=.ok us.toArray w':=fun w' hw'=>by
   rw[←hq]
   exact hfx w' fun b o v h=>by
    have:=s.mem.hok.c b o v h
    simp only[World.cell?,hw']at this ⊢;exact this
  obtain⟨cap,hcap,hrun⟩:=eG (P:=X.P) (w:=w) (ty:=ty) (A:=A) (n:=xs.length) (c:=xs.length) (us:=us) (vs:=vs) hu hxu hz hzv hb (fun w=>by rw[hqy];exact dI) hfc' hus (by omega) hbytes hb0
  rw[aG (by simp),hexec _ hrun,Result.andThen_ok,Oper.uponIn_value]
  have hzc:(Builtin.zeroCells z.cells (cap-(xs.length+ys.length))).toList.length=(cap-(xs.length+ys.length))*k:=by
   simp[Builtin.zeroCells,hzl]
  have hm:=s.mem.drew.new i (.arr k (xs++ys)) (.cells (us++vs++(Builtin.zeroCells z.cells (cap-(xs.length+ys.length))).toList).toArray el) cap
   ⟨by rw[ap,List.length_append];exact hcap,fun cs hcs=>by rcases List.mem_append.1 hcs with h|h;exact hxk cs h;exact hyk cs h,fun _=>by
    rw[ap]
    refine⟨el,_,World.alloc_heap_new _ _,?_,?_⟩
    ·rw[List.length_append,List.length_append,hzc,hul,hvl,←Nat.add_mul,←Nat.add_mul]
     congr 1
     show xs.length+ys.length+(cap-(xs.length+ys.length))=cap
     omega
    ·refine fL hxk hyk hurep hvrep (fun p hp=>?_) (fun p hp=>?_)
     ·rw[List.append_assoc,List.getElem?_append_left (by omega)]
     ·rw[List.append_assoc,List.getElem?_append_right (by omega),hul,show xs.length*k+p-xs.length*k=p from by omega,List.getElem?_append_left (by omega)]⟩ (fun _ _ h=>by cases h)
  have hm':Mem w H (fun _=>False) (upd γ i ⟨w.heap.size,cap,fun _=>False⟩) H [(i,.arr k (xs++ys))] (w.drew.alloc (.cells (us++vs++(Builtin.zeroCells z.cells (cap-(xs.length+ys.length))).toList).toArray el)):=
   ⟨⟨hm.keep.os,hm.keep.tape,hm.keep.output,hm.keep.size,hm.keep.block⟩,hm.hle,⟨hm.hnew.c,hm.hnew.m⟩,hm.hok,hm.ent,hm.free,hm.fresh,hm.apart⟩
  refine hk _ H _ _ _ _ (s.new (d:=some i) hm' (V:=.arr i k (xs.length+ys.length)) hf hN ?_) kk
  have:=Rep.arr (γ:=upd γ i ⟨w.heap.size,cap,fun _=>False⟩) (H:=H) i k (xs.length+ys.length) (some ⟨w.heap.size,0,none⟩)
  rw[ap]at this
  exact this hcap (fun _=>rfl)
end append
end Go.Gv
end
section
namespace Go.Gv
open Go.RowKit
def eP (P:Program)(st xt:TypeId):Option Nat:=match und P st,und P xt with
 |some (.slice e),some (.slice e')=>(match Nat.beq e e',fu P e,dV P e,inf P e with
  |true,some k,some z,some ti=>(match Nat.beq z.cells.size k&&!Nat.beq ti.bytes 0&&Nat.ble ti.bytes 65536 with
   |true=>some k
   |false=>none)
  |_,_,_,_=>none)
 |_,_=>none
theorem fD {P:Program}{st xt:TypeId}{k:Nat}(h:eP P st xt=some k):∃(el:TypeId)(z:Value)(bytes:Nat),P.underlying st=some (.slice el)∧P.underlying xt=some (.slice el)∧(∀w,(sizeOf el).run P w=.ok k w)∧(∀w,(zeroValue el).run P w=.ok z w)∧z.cells.size=k∧
 (∀w,((fun i:TypeInfo=>i.bytes) <$>typeInfo el).run P w=.ok bytes w)∧bytes≠0∧bytes≤65536:=by
 simp only[eP,bT,ob]at h
 split at h
 ·next e e' h1 h2=>
  split at h
  ·next k' z ti h3 h4 h5 h6=>
   split at h
   ·next hb=>
    simp only[Option.some.injEq]at h
    subst h
    simp only[Bool.and_eq_true,Bool.not_eq_true',Nat.beq_eq,Nat.ble_eq]at hb
    have h3':e=e':=by simpa using h3
    subst h3'
    refine⟨e,z,ti.bytes,h1,h2,aK h4,bL h5,hb.1.1,fun w=>by simp[typeInfo,h6],fun x=>?_,hb.2⟩
    have:=hb.1.2
    rw[x]at this;cases this
   ·cases h
  ·cases h
 ·cases h
theorem gW {n b:Nat}(h:n≤1000000000)(hb:b≤65536):(3*n+4096)*b≤281474976710656:=
 Nat.le_trans (Nat.mul_le_mul (show 3*n+4096≤3000004096 by omega) hb) (by decide)
section append
variable {X:Cx} {d:Option Nat} {ty:TypeId} {pos:String} {aft:Array Edge} {g:Option (Nat×Bool)} {t:T} {σ:Sg} {K:T→Sg→Prop}
theorem uZ {x y:Operand}{st xt:TypeId}{i k n:Nat}{xs ys:List (List D)}{av:AV}(hN:dOk d X.N=true)(hx:ge t x=some (.arr i k n))(hy:ge t y=some av)(hi:look i σ=some (.arr k xs))(hel:elems av=some (k,ys))(hI:eP X.P st xt=some k)
 (hpin:X.pin.all (fun j=>!Nat.beq i j)=true)(hn:xs.length=n)(hb:n+ys.length≤1000000000)
 (kk:K (putT d (.arr i k (n+ys.length)) (bY i t)) ((i,.arr k (xs++ys))::bF i σ)):
 OpJ X ⟨d,.call {callee:=.builtin .append,args:=#[x,y],argTypes:=#[st,xt]},ty,pos,aft,g⟩ t σ K:=by
 obtain⟨el,z,bytes,h1,h2,h3,h4,h5,h6,h7,h8⟩:=fD hI
 refine xZ hN hx hy hi hn hel h1 h2 h3 h4 h5 h6 h7 (gW hb h8) (fun hp=>?_) kk
 have:=List.all_eq_true.1 hpin i hp
 simp at this
theorem O.appF {i:Nat}{x y:Operand}{st xt:TypeId}{k:Nat}{xs ys:List (List D)}{av0 av:AV}(hN:dOk (some i) X.N=true)(hx:ge t x=some av0)(hfu:FullIs av0 k xs)(hy:ge t y=some av)(hel:elems av=some (k,ys))(hI:eP X.P st xt=some k)
 (hf:am i t σ X.pin=true)(hb:xs.length+ys.length≤1000000000)(hne:ys≠[]∨xs=[])
 (kk:K ((i,.arr i k (xs.length+ys.length))::t) ((i,.arr k (xs++ys))::σ)):
 OpJ X ⟨some i,.call {callee:=.builtin .append,args:=#[x,y],argTypes:=#[st,xt]},ty,pos,aft,g⟩ t σ K:=by
 obtain⟨el,z,bytes,h1,h2,h3,h4,h5,h6,h7,h8⟩:=fD hI
 exact O.appendF hN hx hfu hy hel h1 h2 h3 h4 h5 h6 h7 (gW hb h8) hf hne kk
def Ey (X:Cx)(d:Option Nat)(x y:Operand)(st xt:TypeId)(t:T)(σ:Sg)(K:T→Sg→Prop)(F:Prop):Prop:=match ge t x,ge t y with
 |some (.arr i k n),some av=>(match look i σ,elems av with
  |some (.arr k' xs),some (k2,ys)=>(match eP X.P st xt with
   |some k3=>(match Nat.beq k' k&&Nat.beq k2 k&&Nat.beq k3 k&&X.pin.all (fun j=>!Nat.beq i j)&&dOk d X.N with
    |true=>Req (xs.length=n∧n+ys.length≤1000000000) (K (putT d (.arr i k (n+ys.length)) (bY i t)) ((i,.arr k (xs++ys))::bF i σ))
    |false=>F)
   |none=>F)
  |_,_=>F)
 |_,_=>F
theorem uF {x y:Operand}{st xt:TypeId}(h:Ey X d x y st xt t σ K (OpJ X ⟨d,.call {callee:=.builtin .append,args:=#[x,y],argTypes:=#[st,xt]},ty,pos,aft,g⟩ t σ K)):
 OpJ X ⟨d,.call {callee:=.builtin .append,args:=#[x,y],argTypes:=#[st,xt]},ty,pos,aft,g⟩ t σ K:=by
 unfold Ey at h
 split at h
 ·next i k n av hx hy=>
  split at h
  ·next k' xs k2 ys hi hel=>
   split at h
   ·next k3 hI=>
    split at h
    ·next hb=>
     simp only[Bool.and_eq_true,Nat.beq_eq]at hb
     obtain⟨⟨⟨⟨h1,h2⟩,h3⟩,h4⟩,h5⟩:=hb
     subst h1;subst h2;subst h3
     exact uZ h5 hx hy hi hel hI h4 h.1.1 h.1.2 h.2
    ·exact h
   ·exact h
  ·exact h
 ·exact h
end append
end Go.Gv
end
