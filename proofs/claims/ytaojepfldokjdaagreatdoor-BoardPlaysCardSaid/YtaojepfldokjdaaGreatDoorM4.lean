/- Laws that the claim's text stands on: part M4 of them. -/
import Derived.Test.YtaojepfldokjdaaGreatDoorM1
import Derived.Test.YtaojepfldokjdaaGreatDoorM2
import Derived.Test.YtaojepfldokjdaaGreatDoorM3
import Derived.Lib.Builder
import Derived.Lib.UnsafeStr
import Derived.Laws.Externs
set_option linter.unusedVariables false
set_option linter.unusedSimpArgs false
section
namespace Go.Gv
open Go.RowKit
theorem SJ.nilD {X:Cx}{t:T}{σ:Sg}(j k:Nat)(hj:look j t=some (.d (.v (.slice none 0 0)))):SJ X t σ ((j,.d (.sl k []))::t) σ:=
 SJ.view j hj fun γ H u r=>by
  obtain rfl:=aV r
  exact .d _ _ (.sl k [] none 0 0 0 (fun _ _=>undef) (fun _ h=>by simp at h) (Nat.le_refl _) (by simp) (fun h=>by simp at h) (fun _ _ h=>by simp at h) (fun _ _ _ _ h=>by simp at h))
theorem fN {X:Cx}{t:T}{σ:Sg}(j:Nat){k:Nat}{xs:List (List D)}(hj:look j t=some (.full k xs)):SJ X t σ ((j,.d (.sl k xs))::t) σ:=
 SJ.view j hj fun γ H u r=>by
  cases r with
  |full _ _ A h=>exact .d _ _ h
theorem mf {γ:Ids}{H:HF}{vs:List AV}{u:Value}{j:Nat}{a a':AV}(r:Rep γ H (.tup vs) u)(hj:vs[j]?=some a)(h:∀u,Rep γ H a u→Rep γ H a' u):Rep γ H (.tup (vs.set j a')) u:=by
 cases r with
 |tup _ us hl hr=>
  refine .tup _ us (by simp[hl]) fun l b v hb hv=>?_
  rw[List.getElem?_set]at hb
  by_cases e:j=l
  ·subst e
   rw[if_pos rfl]at hb
   split at hb
   ·cases hb;exact h v (hr j a v hj hv)
   ·cases hb
  ·rw[if_neg e]at hb;exact hr l b v hb hv
theorem iM {γ:Ids}{H:HF}{vs:List AV}{u:Value}{j:Nat}{a a':AV}(r:Rep γ H (.agg vs) u)(hj:vs[j]?=some a)(h:∀u,Rep γ H a u→Rep γ H a' u):Rep γ H (.agg (vs.set j a')) u:=by
 cases r with
 |agg _ us hl hr=>
  refine .agg _ us (by simp[hl]) fun l b v hb hv=>?_
  rw[List.getElem?_set]at hb
  by_cases e:j=l
  ·subst e
   rw[if_pos rfl]at hb
   split at hb
   ·cases hb;exact h v (hr j a v hj hv)
   ·cases hb
  ·rw[if_neg e]at hb;exact hr l b v hb hv
theorem v5 {γ:Ids}{H:HF}{i k n:Nat}{xs:List (List D)}(hp:lh γ H i (.a k xs))(hn:n≤xs.length)(hm:n≤9223372036854775807){u:Value}(r:Rep γ H (.arr i k n) u):Rep γ H (.d (.sl k (xs.take n))) u:=by
 cases r with
 |arr _ _ _ A h1 hA=>exact .d _ _ (hp n A hn h1 hA hm)
theorem gl {X:Cx}{σ:Sg}{vs:List AV}{Q:AV→Sg→Prop}(i j:Nat){k n:Nat}{xs:List (List D)}(hi:look i σ=some (.arr k xs))(hj:vs[j]?=some (.arr i k n))(hn:n≤xs.length)(hm:n≤9223372036854775807)
 (kk:FinP X ((i,.gone)::σ) (.tup (vs.set j (.d (.sl k (xs.take n))))) Q):FinP X σ (.tup vs) Q:=
 let⟨σ',r',h1,hc,hq⟩:=kk
 ⟨σ',r',.pub i hi rfl (fun _ _ _ ok rr=>mf rr hj fun _=>v5 ok hn hm) (by rw[yr];exact h1),hc,hq⟩
theorem ai {X:Cx}{σ:Sg}{vs:List AV}{Q:AV→Sg→Prop}(j:Nat){a a':AV}(hj:vs[j]?=some a)(h:∀γ H u,Rep γ H a u→Rep γ H a' u)(kk:FinP X σ (.tup (vs.set j a')) Q):FinP X σ (.tup vs) Q:=
 FinP.view (fun γ H _ rr=>mf rr hj (h γ H)) kk
theorem ar {γ:Ids}{H:HF}(k:Nat){u:Value}(r:Rep γ H (.d (.v (.slice none 0 0))) u):Rep γ H (.d (.sl k [])) u:=by
 obtain rfl:=aV r
 exact .d _ _ (.sl k [] none 0 0 0 (fun _ _=>undef) (fun _ h=>by simp at h) (Nat.le_refl _) (by simp) (fun h=>by simp at h) (fun _ _ h=>by simp at h) (fun _ _ _ _ h=>by simp at h))
theorem lY {α V:Type}(enc:α→List AV)(L:List α)(S0:V→Sg)(ks:List Nat)(I:List α→V→Prop)(Ix:Code→List α→V→Prop)
 {X:Cx}{g:Operand}{ps:Array Nat}{assign body:Code}{t:T}{σ:Sg}{Q:Qt}(v0:V){gf:FuncId}{caps:List AV}{av:AV}{M:List (List AV)}(hit:AW X.Λ X.P gf caps M)(hM:M=L.map enc)(hg:ge t g=some av)(hf:FnIs av gf caps)(hcap:caps.all AV.open=true)(hok:fI X.P gf)
 (hfl:ou t=true)(hps:ps.toList.all (fun p=>Nat.blt p X.N)=true)(hen:∀x,(enc x).length=ps.size)(hs:Has (S0 v0) σ)(h0:I [] v0)
 (round:∀l,l7 enc L (fun v=>S0 v++fZ ks σ) I Ix X.P X.Λ X.N l (X.pin++cU t) ps.toList assign body t)
 (done:∀v,I L v→Q .normal t (S0 v++fZ ks σ))(stop:∀c p v,Ix c p v→vc X c t (S0 v++fZ ks σ) Q):WJ X (.rangeFunc g ps assign body) t σ Q:=
 xL enc L (fun v=>S0 v++fZ ks σ) I Ix v0 hg hf hcap hok (hM▸hit) hfl hps hen (hs.wk.app (kP _ _)) h0 round done stop
end Go.Gv
end
section
namespace Go.Gv
open Go.RowKit
theorem aH {X:Cx}{t:T}{σ:Sg}(j off:Nat){cs:List AV}{a a':AV}(hj:look j σ=some (.cells cs))(ha:cs[off]?=some a)(h:∀γ H u,Rep γ H a u→Rep γ H a' u):SJ X t σ t ((j,.cells (cs.set off a'))::σ):=fun γ H ac w s=>by
 have he:=s.mem.ent j _ hj
 obtain⟨tt,us,h1,h2,h3⟩:=he
 have hm:Mem X.w0 X.H0 X.B γ H ((j,.cells (cs.set off a'))::σ) w:=by
  refine⟨s.mem.keep,s.mem.hle,s.mem.hnew,s.mem.hok,fun i e hi=>?_,fun i e hi b hb=>?_,fun i e hi b hb=>?_,fun i e k e' b hi hk hb hb'=>?_⟩
  ·rw[ae]at hi
   split at hi
   ·next e1=>
    subst e1;cases hi
    refine⟨tt,us,h1,by simp[h2],fun l x u hx hu=>?_⟩
    rw[List.getElem?_set]at hx
    split at hx
    ·next e2=>
     subst e2
     split at hx
     ·cases hx;exact h γ H u (h3 off a u ha hu)
     ·cases hx
    ·exact h3 l x u hx hu
   ·exact s.mem.ent i e hi
  ·rw[ae]at hi
   split at hi
   ·next e1=>subst e1;cases hi;exact s.mem.free _ _ hj b hb
   ·exact s.mem.free i e hi b hb
  ·rw[ae]at hi
   split at hi
   ·next e1=>subst e1;cases hi;exact s.mem.fresh _ _ hj b hb
   ·exact s.mem.fresh i e hi b hb
  ·have g:∀i e,look i ((j,Ent.cells (cs.set off a'))::σ)=some e→∀b,blk γ i e b→∃f,look i σ=some f∧blk γ i f b:=fun i e hi9 b hb9=>by
    rw[ae]at hi9
    split at hi9
    ·next e1=>subst e1;cases hi9;exact⟨_,hj,hb9⟩
    ·exact⟨e,hi9,hb9⟩
   obtain⟨f,hf,hfb⟩:=g i e hi b hb
   obtain⟨f',hf',hfb'⟩:=g k e' hk b hb'
   exact s.mem.apart i f k f' b hf hf' hfb hfb'
 have hbl:∀b,blks γ ((j,.cells (cs.set off a'))::σ) b→blks γ σ b:=fun b ⟨i,e,hi,hb⟩=>by
  rw[ae]at hi
  split at hi
  ·next e1=>subst e1;cases hi;exact⟨_,_,hj,hb⟩
  ·exact⟨i,e,hi,hb⟩
 exact⟨γ,H,s.lam,s.round,let⟨ms,h1,h2⟩:=s.defers;⟨ms,h1,h2.1,fun b hb=>⟨(h2.2 b hb).1,(h2.2 b hb).2.1,fun x=>(h2.2 b hb).2.2 (hbl b x)⟩⟩,s.size,s.pinned,s.tmp,hm⟩
theorem ke {X:Cx}{t:T}{σ:Sg}(i j off k:Nat){cs:List AV}(hj:look j σ=some (.cells cs))(ha:cs[off]?=some (.d (.v (.slice none 0 0))))(hf:am i t σ X.pin=true):SJ X t σ t ((j,.cells (cs.set off (.arr i k 0)))::(i,.arr k [])::σ):=fun γ H a w s=>by
 have key:=s.new (d:=none) (V:=.junk) (v:=undef) (n:=0) (nP s.mem.hok γ i k) hf rfl (.junk _)
 have hij:j≠i:=(aS hf hj).1
 have hn:(upd γ i ⟨w.heap.size,0,fun _=>False⟩ i).n=0:=by rw[ap]
 have he:=key.mem.ent j (.cells cs) (by rw[ae,if_neg hij];exact hj)
 obtain⟨tt,us,h1,h2,h3⟩:=he
 have hm:Mem X.w0 X.H0 X.B (upd γ i ⟨w.heap.size,0,fun _=>False⟩) H ((j,.cells (cs.set off (.arr i k 0)))::(i,.arr k [])::σ) w:=by
  have m:=key.mem
  have hj':look j ((i,Ent.arr k [])::σ)=some (.cells cs):=by rw[ae,if_neg hij];exact hj
  refine⟨m.keep,m.hle,m.hnew,m.hok,fun l e hl=>?_,fun l e hl b hb=>?_,fun l e hl b hb=>?_,fun l e l' e' b hl hl' hb hb'=>?_⟩
  ·rw[ae]at hl
   split at hl
   ·next e1=>
    subst e1;cases hl
    refine⟨tt,us,h1,by simp[h2],fun p x u hx hu=>?_⟩
    rw[List.getElem?_set]at hx
    split at hx
    ·next e2=>
     subst e2
     split at hx
     ·cases hx
      obtain rfl:=aV (h3 off _ u ha hu)
      have:=Rep.arr (γ:=upd γ i ⟨w.heap.size,0,fun _=>False⟩) (H:=H) i k 0 none (Nat.zero_le _) (fun h=>by rw[hn]at h;simp at h)
      rw[hn]at this;exact this
     ·cases hx
    ·exact h3 p x u hx hu
   ·exact m.ent l e hl
  ·rw[ae]at hl
   split at hl
   ·next e1=>subst e1;cases hl;exact m.free _ _ hj' b hb
   ·exact m.free l e hl b hb
  ·rw[ae]at hl
   split at hl
   ·next e1=>subst e1;cases hl;exact m.fresh _ _ hj' b hb
   ·exact m.fresh l e hl b hb
  ·have g:∀l e,look l ((j,Ent.cells (cs.set off (.arr i k 0)))::(i,.arr k [])::σ)=some e→∀b,blk (upd γ i ⟨w.heap.size,0,fun _=>False⟩) l e b→∃f,look l ((i,Ent.arr k [])::σ)=some f∧blk (upd γ i ⟨w.heap.size,0,fun _=>False⟩) l f b:=fun l e hl9 b hb9=>by
    rw[ae]at hl9
    split at hl9
    ·next e1=>subst e1;cases hl9;exact⟨_,hj',hb9⟩
    ·exact⟨e,hl9,hb9⟩
   obtain⟨f,hf,hfb⟩:=g l e hl b hb
   obtain⟨f',hf',hfb'⟩:=g l' e' hl' b hb'
   exact m.apart l f l' f' b hf hf' hfb hfb'
 refine⟨_,H,key.lam,key.round,?_,key.size,key.pinned,key.tmp,hm⟩
 obtain⟨ms,g1,g2,g3⟩:=key.defers
 refine⟨ms,g1,g2,fun b hb=>⟨(g3 b hb).1,(g3 b hb).2.1,fun⟨l,e,hl,hbb⟩=>(g3 b hb).2.2 ?_⟩⟩
 rw[ae]at hl
 split at hl
 ·next e1=>subst e1;cases hl;exact⟨l,.cells cs,by rw[ae,if_neg hij];exact hj,hbb⟩
 ·exact⟨l,e,hl,hbb⟩
theorem b8 {X:Cx}{t:T}{σ:Sg}(i j off:Nat){k n:Nat}{cs:List AV}{xs:List (List D)}(hi:look i σ=some (.arr k xs))(hj:look j σ=some (.cells cs))(ha:cs[off]?=some (.arr i k n))(hn:n≤xs.length)(hm:n≤9223372036854775807):
 SJ X t σ t ((j,.cells (cs.set off (.d (.sl k (xs.take n)))))::(i,.gone)::σ):=fun γ H a w s=>by
 obtain⟨H',hle,ok,s'⟩:=s.pub hi rfl
 rw[yr]at s'
 have hij:j≠i:=fun e=>by subst e;rw[hi]at hj;cases hj
 have hj':look j ((i,Ent.gone)::σ)=some (.cells cs):=by rw[ae,if_neg hij];exact hj
 obtain⟨tt,us,h1,h2,h3⟩:=s'.mem.ent j _ hj'
 have hm':Mem X.w0 X.H0 X.B γ H' ((j,.cells (cs.set off (.d (.sl k (xs.take n)))))::(i,.gone)::σ) w:=by
  have m:=s'.mem
  refine⟨m.keep,m.hle,m.hnew,m.hok,fun l e hl=>?_,fun l e hl b hb=>?_,fun l e hl b hb=>?_,fun l e l' e' b hl hl' hb hb'=>?_⟩
  ·rw[ae]at hl
   split at hl
   ·next e1=>
    subst e1;cases hl
    refine⟨tt,us,h1,by simp[h2],fun p x u hx hu=>?_⟩
    rw[List.getElem?_set]at hx
    split at hx
    ·next e2=>
     subst e2
     split at hx
     ·cases hx;exact v5 ok hn hm (h3 off _ u ha hu)
     ·cases hx
    ·exact h3 p x u hx hu
   ·exact m.ent l e hl
  ·rw[ae]at hl
   split at hl
   ·next e1=>subst e1;cases hl;exact m.free _ _ hj' b hb
   ·exact m.free l e hl b hb
  ·rw[ae]at hl
   split at hl
   ·next e1=>subst e1;cases hl;exact m.fresh _ _ hj' b hb
   ·exact m.fresh l e hl b hb
  ·have g:∀l e,look l ((j,Ent.cells (cs.set off (.d (.sl k (xs.take n)))))::(i,.gone)::σ)=some e→∀b,blk γ l e b→∃f,look l ((i,Ent.gone)::σ)=some f∧blk γ l f b:=fun l e hl9 b hb9=>by
    rw[ae]at hl9
    split at hl9
    ·next e1=>subst e1;cases hl9;exact⟨_,hj',hb9⟩
    ·exact⟨e,hl9,hb9⟩
   obtain⟨f,hf,hfb⟩:=g l e hl b hb
   obtain⟨f',hf',hfb'⟩:=g l' e' hl' b hb'
   exact m.apart l f l' f' b hf hf' hfb hfb'
 refine⟨γ,H',s'.lam,s'.round,?_,s'.size,s'.pinned,s'.tmp,hm'⟩
 obtain⟨ms,g1,g2,g3⟩:=s'.defers
 refine⟨ms,g1,g2,fun b hb=>⟨(g3 b hb).1,(g3 b hb).2.1,fun⟨l,e,hl,hbb⟩=>(g3 b hb).2.2 ?_⟩⟩
 rw[ae]at hl
 split at hl
 ·next e1=>subst e1;cases hl;exact⟨l,.cells cs,hj',hbb⟩
 ·exact⟨l,e,hl,hbb⟩
end Go.Gv
end
section
namespace Go.Gv
open Go.RowKit
def lS:List Nat→T→T
 |[],t=>t
 |i::l,t=>lS l (bY i t)
def jd:List Nat→Sg→Sg
 |[],σ=>σ
 |i::l,σ=>jd l (bF i σ)
theorem St.drops {X:Cx}{γ:Ids}{H:HF}{a:Act}{w:World}:∀(l:List Nat){t:T}{σ:Sg},St X γ H t σ a w→St X γ H (lS l t) (jd l σ) a w
 |[],_,_,s=>s
 |i::l,_,_,s=>St.drops l (s.drop i)
section call
variable {X:Cx} {d:Option Nat} {ty:TypeId} {pos:String} {aft:Array Edge} {g:Option (Nat×Bool)} {t:T} {σ:Sg} {K:T→Sg→Prop}
theorem OpJ.callD (ds:List Nat){f:FuncId}{args:Array Operand}{tys:Array TypeId}{avs:List AV}{σL:Sg}{Q:AV→Sg→Prop}(hc:Ct X.Λ X.P f avs σL Q)(hok:fI X.P f)(hN:dOk d X.N=true)
 (ha:iE t args.toList=some avs)(hs:Wk σL (jd ds σ))(k:∀r σ',Q r σ'→yo σ' σL (lS ds t) (jd ds σ) X.pin=true∧K (putT d r (lS ds t)) (σ'++al σL (jd ds σ))):
 OpJ X ⟨d,.call {callee:=.value (.func f),args:=args,argTypes:=tys},ty,pos,aft,g⟩ t σ K:=by
 intro γ H a w s0 next Q' hk
 rw[aG (by simp),oS hok,Oper.uponIn_enter]
 refine⟨fun h=>by simp[Fr]at h,?_⟩
 have s:=s0.drops ds
 have:=hc X.ro γ H w (args.map a.eval).toList (s.lamAt σL hs) (s.mem.wk hs).self (by have:=congrArg List.length (bE ha);simpa using this) (by
  have:=ga (γ:=γ) (H:=H) (a:=a) (fun x _ v hv=>aT s0.tmp hv) (bE ha)
  simpa using this)
 simp only[Array.toArray_toList]at this
 refine this.mono ?_
 rintro e w' ⟨v,r,σ',γ',H',rfl,hq,hr,hag,hpin,hm⟩
 obtain⟨htk,hK⟩:=k r σ' hq
 have tk:∀j e,look j σ'=some e→(∃e,look j σL=some e∧e.var=true)∨am j (lS ds t) (al σL (jd ds σ)) X.pin=true:=fun j e hj=>by
  have:=List.all_eq_true.1 htk _ (cI hj)
  rcases Bool.or_eq_true_iff.1 this with h|h
  ·left
   unfold mR at h
   split at h
   ·next e hcs=>exact⟨e,hcs,h⟩
   ·cases h
  ·exact .inr h
 have same:∀j,(∀e,look j σ'=some e→am j (lS ds t) (al σL (jd ds σ)) X.pin=true→False)→γ j=γ' j:=fun j hj=>by
  cases hx:look j σ' with
  |none=>exact hag j hx
  |some e=>
   rcases tk j e hx with⟨e',h,hv⟩|h
   ·exact hpin j e' h hv
   ·exact(hj e hx h).elim
 refine hk γ' H' _ _ _ w' (s.step (σr:=al σL (jd ds σ)) hm (fun b hb=>qY hs hb) fR (fun i e hi=>?_) (fun i e hi=>⟨same i fun f _ hf=>?_,fun j hj=>same j fun f _ hf=>?_⟩) (fun i hi=>same i fun f _ hf=>?_) (fun i x hi j hj=>same j fun f _ hf=>?_) hN hr) hK
 ·cases hx:look i σ' with
  |none=>rfl
  |some f=>
   rcases tk i f hx with⟨e',h,hv⟩|h
   ·rw[be,h]at hi;cases hi
   ·exact absurd rfl (aS h hi).1
 ·exact(aS hf hi).1 rfl
 ·have:=(aS hf hi).2;rw[hj]at this;cases this
 ·exact gb hf hi rfl
 ·have:=dK hf hi;rw[hj]at this;cases this
end call
end Go.Gv
end
section
namespace Go.Gv
open Go.RowKit
section append
variable {X:Cx} {d:Option Nat} {ty:TypeId} {pos:String} {aft:Array Edge} {g:Option (Nat×Bool)} {t:T} {σ:Sg} {K:T→Sg→Prop}
theorem xY {x y:Operand}{st xt el:TypeId}{i k n bytes:Nat}{z:Value}{xs ys:List (List D)}{av:AV}(hN:dOk d X.N=true)(hx:ge t x=some (.arr i k n))(hy:ge t y=some av)(hi:look i σ=some (.arrT el k xs))(hn:xs.length=n)(hel:elems av=some (k,ys))
 (hu:X.P.underlying st=some (.slice el))(hxu:X.P.underlying xt=some (.slice el))(hz:∀w,(sizeOf el).run X.P w=.ok k w)(hzv:∀w,(zeroValue el).run X.P w=.ok z w)(hzl:z.cells.size=k)
 (hb:∀w,((fun i:TypeInfo=>i.bytes) <$>typeInfo el).run X.P w=.ok bytes w)(hb0:bytes≠0)(hbytes:(3*(n+ys.length)+4096)*bytes≤281474976710656)(hpin:i∉X.pin)
 (kk:K (putT d (.arr i k (n+ys.length)) (bY i t)) ((i,.arrT el k (xs++ys))::bF i σ)):
 OpJ X ⟨d,.call {callee:=.builtin .append,args:=#[x,y],argTypes:=#[st,xt]},ty,pos,aft,g⟩ t σ K:=by
 intro γ H a w s next Q' hk
 have hr:=aT s.tmp hx
 generalize hq:a.eval x=q at hr
 cases hr with
 |arr _ _ _ A hncap hA=>
 have hry:=dy (aT s.tmp hy) hel
 obtain⟨hyk,hylen⟩:=cF hry
 obtain⟨B,cy,vs,hqy,hfc,hvl,hvone,hvrep⟩:=dW (P:=X.P) hry
 obtain⟨hle,hxk,hreal⟩:=s.mem.ent i _ hi
 have hexec:∀r:Result Value,(Builtin.append_ #[st,xt] ty #[.slice A n (γ i).n,a.eval y]).run X.P w=r→(execOp a.eval ⟨d,.call {callee:=.builtin .append,args:=#[x,y],argTypes:=#[st,xt]},ty,pos,aft,g⟩).run X.P w=
  r.andThen fun v w=>.ok (.value v) w:=fun r h=>by
  simp only[execOp,resolve,invoke,builtin,List.map_toArray,List.map_cons,List.map_nil,Sem.run_bind,Sem.run_pure,Result.andThen_ok,hq,h]
 have s1:=s.drop i
 have hi1:look i (bF i σ)=some (.arrT el k xs):=by rw[bF,cA,hi];rfl
 subst hn
 by_cases hroom:xs.length+ys.length≤(γ i).n
 ·have hrun:=eF (P:=X.P) (w:=w) (ty:=ty) (A:=A) (n:=xs.length) (c:=(γ i).n) hu hxu hz (fun w=>by rw[hqy];exact dI) (hfc w s.mem.hok.c) hroom
  by_cases hc0:0<(γ i).n
  ·have hA':=hA hc0
   subst hA'
   obtain⟨us,h3,h4,h5⟩:=hreal hc0
   have hfit:xs.length*k+0+vs.length≤us.length:=by
    rw[h4,hvl,Nat.add_zero,←Nat.add_mul];exact Nat.mul_le_mul_right _ hroom
   obtain⟨w',hw1,hw2,hw3⟩:=gB (P:=X.P) vs w us (xs.length*k) 0 h3 hfit hvone
   simp only[gk,Nat.zero_add,hw1,Result.andThen_ok]at hrun
   rw[aG (by simp),hexec _ hrun,Result.andThen_ok,Oper.uponIn_value]
   simp only[Nat.add_zero]at hw2 hfit
   have he:EntOk γ H w' i (.arrT el k (xs++ys)):=⟨by rw[List.length_append];exact hroom,fun cs hcs=>by rcases List.mem_append.1 hcs with h|h;exact hxk cs h;exact hyk cs h,fun _=>⟨_,hw2,by rw[bV];exact h4,
    fL hxk hyk h5 hvrep (fun p hp=>by rw[gF _ _ _ _ hfit,if_neg (by omega)]) (fun p hp=>by rw[gF _ _ _ _ hfit,if_pos (by omega)];congr 1;omega)⟩⟩
   have hm:=s1.mem.turn (e:=.arrT el k xs) (e':=.arrT el k (xs++ys)) hi1 ⟨rfl,hc0⟩ hw3 he fun b hb=>hb.1
   exact hk γ H _ _ _ w' (s1.turn (d:=d) (V:=.arr i k (xs.length+ys.length)) hi1 ⟨rfl,hc0⟩ hm hN (.arr i k _ _ hroom fun _=>rfl)) kk
  ·have hx0:xs.length=0:=by omega
   have hy0:ys.length=0:=by omega
   have hx0':xs=[]:=List.length_eq_zero_iff.1 hx0
   have hy0':ys=[]:=List.length_eq_zero_iff.1 hy0
   subst hx0';subst hy0'
   have hv0:vs=[]:=List.length_eq_zero_iff.1 (by rw[hvl];simp)
   subst hv0
   have hrun':(Builtin.append_ #[st,xt] ty #[.slice A 0 (γ i).n,a.eval y]).run X.P w=.ok (.slice A 0 (γ i).n) w:=by
    simp only[List.length_nil]at hrun
    rw[hrun];cases A<;>simp[storeCells]
   rw[aG (by simp),hexec _ hrun',Result.andThen_ok,Oper.uponIn_value]
   have key:=s1.calm (d:=d) (V:=.arr i k 0) (v:=.slice A 0 (γ i).n) (s1.mem.refl γ) hN (.arr i k 0 A (Nat.zero_le _) hA)
   exact hk γ H _ _ _ w (key.wk (Wk.refl _) (Wk.cons hi1 (Wk.refl _))) kk
 ·have hs:∃us:List Value,us.length=xs.length*k∧(∀w':World,w'.heap=w.heap→(Builtin.firstCells k xs.length (.slice A xs.length (γ i).n)).run X.P w'=.ok us.toArray w')∧
   ∀(j l:Nat)(cs:List D)(a:D)(u:Value),xs[j]?=some cs→cs[l]?=some a→us[j*k+l]?=some u→RepD H a u:=by
   by_cases hc0:0<(γ i).n
   ·have hA':=hA hc0
    subst hA'
    obtain⟨us,h3,h4,h5⟩:=hreal hc0
    have hlt:xs.length*k≤us.length:=by rw[h4];exact Nat.mul_le_mul_right _ hle
    refine⟨us.take (xs.length*k),by simp;omega,fun w' hw'=>?_,fun j l cs a u hj hl hu=>?_⟩
    ·have:=du (P:=X.P) (w:=w') (b:=(γ i).b) (vs:=fun p=>us.getD p undef) (xs.length*k) 0 0 #[] (fun p hp=>by
      have h6:w'.heap[(γ i).b]?=some (.cells us.toArray el (0,0)):=by rw[hw'];exact h3
      rw[aU h6];simp[List.getElem?_eq_getElem (show p<us.length by omega)])
     simp only[Builtin.firstCells,loadCells]
     rw[this]
     congr 1
     apply Array.toList_inj.1
     simp only[List.nil_append,List.append_toArray,List.toList_toArray,Array.toList_append]
     apply List.ext_getElem?
     intro p
     simp only[List.getElem?_map,List.getElem?_take]
     by_cases hp:p<xs.length*k
     ·rw[if_pos hp,List.getElem?_range' (by omega)]
      simp[List.getElem?_eq_getElem (show p<us.length by omega)]
     ·rw[if_neg hp,List.getElem?_eq_none (by simp;omega)];rfl
    ·rw[List.getElem?_take]at hu
     split at hu
     ·exact h5 j l cs a u hj hl hu
     ·cases hu
   ·have hx0':xs=[]:=List.length_eq_zero_iff.1 (by omega)
    subst hx0'
    refine⟨[],by simp,fun w' _=>?_,by simp⟩
    cases A<;>simp[Builtin.firstCells,loadCells,loadCellsFrom]
  obtain⟨us,hul,hus,hurep⟩:=hs
  have hfc':∀w':World,w'.heap=w.heap→(Builtin.firstCells k ys.length (a.eval y)).run X.P w'=.ok vs.toArray w':=fun w' hw'=>hfc w' fun b o v h=>by
   have:=s.mem.hok.c b o v h
   simp only[World.cell?,hw']at this ⊢;exact this
  obtain⟨cap,hcap,hrun⟩:=eG (P:=X.P) (w:=w) (ty:=ty) (A:=A) (n:=xs.length) (c:=(γ i).n) (us:=us) (vs:=vs) hu hxu hz hzv hb (fun w=>by rw[hqy];exact dI) hfc' hus (by omega) hbytes hb0
  rw[aG (by simp),hexec _ hrun,Result.andThen_ok,Oper.uponIn_value]
  have hzc:(Builtin.zeroCells z.cells (cap-(xs.length+ys.length))).toList.length=(cap-(xs.length+ys.length))*k:=by
   simp[Builtin.zeroCells,hzl]
  have hm:=s.mem.drew.new i (.arrT el k (xs++ys)) (.cells (us++vs++(Builtin.zeroCells z.cells (cap-(xs.length+ys.length))).toList).toArray el) cap
   ⟨by rw[ap,List.length_append];exact hcap,fun cs hcs=>by rcases List.mem_append.1 hcs with h|h;exact hxk cs h;exact hyk cs h,fun _=>by
    rw[ap]
    refine⟨_,World.alloc_heap_new _ _,?_,?_⟩
    ·rw[List.length_append,List.length_append,hzc,hul,hvl,←Nat.add_mul,←Nat.add_mul]
     congr 1
     show xs.length+ys.length+(cap-(xs.length+ys.length))=cap
     omega
    ·refine fL hxk hyk hurep hvrep (fun p hp=>?_) (fun p hp=>?_)
     ·rw[List.append_assoc,List.getElem?_append_left (by omega)]
     ·rw[List.append_assoc,List.getElem?_append_right (by omega),hul,show xs.length*k+p-xs.length*k=p from by omega,List.getElem?_append_left (by omega)]⟩ (fun _ _ h=>by cases h)
  have hm':Mem w H (fun _=>False) (upd γ i ⟨w.heap.size,cap,fun _=>False⟩) H [(i,.arrT el k (xs++ys))] (w.drew.alloc (.cells (us++vs++(Builtin.zeroCells z.cells (cap-(xs.length+ys.length))).toList).toArray el)):=
   ⟨⟨hm.keep.os,hm.keep.tape,hm.keep.output,hm.keep.size,hm.keep.block⟩,hm.hle,⟨hm.hnew.c,hm.hnew.m⟩,hm.hok,hm.ent,hm.free,hm.fresh,hm.apart⟩
  refine hk _ H _ _ _ _ (s.moved hi hpin hm' (V:=.arr i k (xs.length+ys.length)) hN ?_) kk
  have:=Rep.arr (γ:=upd γ i ⟨w.heap.size,cap,fun _=>False⟩) (H:=H) i k (xs.length+ys.length) (some ⟨w.heap.size,0,none⟩)
  rw[ap]at this
  exact this hcap (fun _=>rfl)
theorem kg {x y:Operand}{st xt el:TypeId}{i k n:Nat}{xs ys:List (List D)}{av:AV}(hN:dOk d X.N=true)(hx:ge t x=some (.arr i k n))(hy:ge t y=some av)(hi:look i σ=some (.arrT el k xs))(hel:elems av=some (k,ys))(hI:eP X.P st xt=some k)(hu:X.P.underlying st=some (.slice el))
 (hpin:X.pin.all (fun j=>!Nat.beq i j)=true)(hn:xs.length=n)(hb:n+ys.length≤1000000000)
 (kk:K (putT d (.arr i k (n+ys.length)) (bY i t)) ((i,.arrT el k (xs++ys))::bF i σ)):
 OpJ X ⟨d,.call {callee:=.builtin .append,args:=#[x,y],argTypes:=#[st,xt]},ty,pos,aft,g⟩ t σ K:=by
 obtain⟨el',z,bytes,h1,h2,h3,h4,h5,h6,h7,h8⟩:=fD hI
 have he:el'=el:=by rw[hu]at h1;simpa using h1.symm
 subst he
 refine xY hN hx hy hi hn hel h1 h2 h3 h4 h5 h6 h7 (gW hb h8) (fun hp=>?_) kk
 have:=List.all_eq_true.1 hpin i hp
 simp at this
end append
end Go.Gv
end
section
namespace Go.Gv
open Go.RowKit
section str
variable {X:Cx} {d:Option Nat} {ty:TypeId} {pos:String} {aft:Array Edge} {g:Option (Nat×Bool)} {t:T} {σ:Sg} {K:T→Sg→Prop}
theorem yF {γ:Ids}{H:HF}{a:AV}{u:Value}(h:Rep γ H a u):Rep γ H (.tup [a]) (.tuple #[u]):=by
 refine .tup [a] [u] rfl fun j b v h1 h2=>?_
 match j,h1,h2 with
 |0,h1,h2=>simp at h1 h2;subst h1;subst h2;exact h
theorem yE {γ:Ids}{H:HF}{a b c:AV}{u v w:Value}(h1:Rep γ H a u)(h2:Rep γ H b v)(h3:Rep γ H c w):Rep γ H (.tup [a,b,c]) (.tuple #[u,v,w]):=by
 refine .tup [a,b,c] [u,v,w] rfl fun j x y e1 e2=>?_
 match j,e1,e2 with
 |0,e1,e2=>simp at e1 e2;subst e1;subst e2;exact h1
 |1,e1,e2=>simp at e1 e2;subst e1;subst e2;exact h2
 |2,e1,e2=>simp at e1 e2;subst e1;subst e2;exact h3
theorem AB {i:Nat}{xt:TypeId}{x:Operand}{s:ByteArray}(hx:ge t x=some (.d (.v (.string s))))(hu:X.P.underlying xt=some .string)(hf:am i t σ X.pin=true)(hN:dOk (some i) X.N=true)
 (k:K ((i,.box i 0)::t) ((i,.obj (.stringIter s 0))::σ)):OpJ X ⟨some i,.range xt x,ty,pos,aft,g⟩ t σ K:=by
 intro γ H a w st next Q' hk
 have hq:=aV (aT st.tmp hx)
 have hrun:(execOp a.eval ⟨some i,.range xt x,ty,pos,aft,g⟩).run X.P w=.ok (.value (.pointer (some ⟨w.heap.size,0,none⟩))) (w.alloc (.stringIter s 0)):=by
  simp[execOp,Instr.range,hq,run_underlying hu]
 rw[aG (by simp),hrun,Oper.uponIn_value]
 have hm:=st.mem.new i (.obj (.stringIter s 0)) (.stringIter s 0) 0 (by simp only[EntOk,ap];exact World.alloc_heap_new _ _) (fun _ _ h=>by cases h)
 refine hk _ H _ _ _ _ (st.new (d:=some i) (V:=.box i 0) hm hf hN ?_) k
 have:=Rep.box (γ:=upd γ i ⟨w.heap.size,0,fun _=>False⟩) (H:=H) i 0
 rw[ap]at this;exact this
theorem ri {j p:Nat}{x:Operand}{s:ByteArray}(hx:ge t x=some (.box j 0))(hj:look j σ=some (.obj (.stringIter s p)))(hlt:p<s.size)(hN:dOk d X.N=true)
 (k:K (putT d (.tup [.d (.v (.bool true)),.d (.v (.int .i64 p)),.d (.v (.int .i32 (Utf8.decode s p).1))]) t) ((j,.obj (.stringIter s (p+(Utf8.decode s p).2)))::σ)):OpJ X ⟨d,.next x true,ty,pos,aft,g⟩ t σ K:=by
 intro γ H a w st next Q' hk
 have hr:=aT st.tmp hx
 generalize hq:a.eval x=q at hr
 cases hr with
 |box _ _=>
 have he:w.heap[(γ j).b]?=some (.stringIter s p):=st.mem.ent j _ hj
 have hrun:(execOp a.eval ⟨d,.next x true,ty,pos,aft,g⟩).run X.P w=.ok (.value (.tuple #[.bool true,.int .i64 p,.int .i32 (Utf8.decode s p).1])) (w.putObj (γ j).b (.stringIter s (p+(Utf8.decode s p).2))):=by
  simp[execOp,Instr.next,hq,getObj,setObj,Sem.run,he,hlt,World.putObj,goInt]
 rw[aG (by simp),hrun,Oper.uponIn_value]
 have hlt':=aF he
 have hs:SameBut (γ j).b w (w.putObj (γ j).b (.stringIter s (p+(Utf8.decode s p).2))):=⟨rfl,rfl,rfl,by simp,fun b hb=>World.putObj_heap_other hb⟩
 have hm:=st.mem.turn (e':=.obj (.stringIter s (p+(Utf8.decode s p).2))) hj rfl hs (by simp[EntOk,World.putObj,hlt']) fun b hb=>hb
 exact hk γ H _ _ _ _ (st.turn (d:=d) hj rfl hm hN (yE (.d _ _ (.v _ rfl)) (.d _ _ (.v _ rfl)) (.d _ _ (.v _ rfl)))) k
theorem CX {j p:Nat}{x:Operand}{s:ByteArray}(hx:ge t x=some (.box j 0))(hj:look j σ=some (.obj (.stringIter s p)))(hge:s.size≤p)(hN:dOk d X.N=true)
 (k:K (putT d (.tup [.d (.v (.bool false))]) t) σ):OpJ X ⟨d,.next x true,ty,pos,aft,g⟩ t σ K:=by
 intro γ H a w st next Q' hk
 have hr:=aT st.tmp hx
 generalize hq:a.eval x=q at hr
 cases hr with
 |box _ _=>
 have he:w.heap[(γ j).b]?=some (.stringIter s p):=st.mem.ent j _ hj
 have hn:¬p<s.size:=by omega
 have hrun:(execOp a.eval ⟨d,.next x true,ty,pos,aft,g⟩).run X.P w=.ok (.value (.tuple #[.bool false])) w:=by
  simp[execOp,Instr.next,hq,getObj,Sem.run,he,hn]
 rw[aG (by simp),hrun,Oper.uponIn_value]
 exact hk γ H _ _ _ _ (st.calm (d:=d) (st.mem.refl γ) hN (yF (.d _ _ (.v _ rfl)))) k
end str
end Go.Gv
end
section
namespace Go.Gv
open Go.RowKit
section typed
variable {X:Cx} {d:Option Nat} {ty:TypeId} {pos:String} {aft:Array Edge} {g:Option (Nat×Bool)} {t:T} {σ:Sg} {K:T→Sg→Prop}
theorem AO {i:Nat}{e:TypeId}{z:Value}(hz:dV X.P e=some z)(h1:cz (bo z)=true)(hf:am i t σ X.pin=true)
 (hc:(aE (bo z)).any (aP i)=false)(hN:dOk (some i) X.N=true)(k:K ((i,.box i 0)::t) ((i,.cellsT e (aE (bo z)))::σ)):OpJ X ⟨some i,.alloc e,ty,pos,aft,g⟩ t σ K:=by
 intro γ H a w s next Q' hk
 obtain⟨us,hu,hl,hr⟩:=cQ (bQ γ H z) h1
 have hz:=fun w=>bL hz (w:=w)
 have hrun:(execOp a.eval ⟨some i,.alloc e,ty,pos,aft,g⟩).run X.P w=.ok (.value (.pointer (some ⟨w.heap.size,0,none⟩))) (w.alloc (.cells us.toArray e)):=by
  simp[execOp,Instr.alloc,newVar,newRow,hu,hz]
 rw[aG (by simp),hrun,Oper.uponIn_value]
 refine hk _ H _ _ _ _ (s.new (s.mem.new i (.cellsT e (aE (bo z))) _ 0 ⟨us,?_,hl,fun j x y hx hy=>js (hr j x y hx hy) (q8 hc hx)⟩ (fun _ _ h=>by cases h)) hf hN ?_) k
 ·rw[ap];exact World.alloc_heap_new w _
 ·have:=Rep.box (γ:=upd γ i ⟨w.heap.size,0,fun _=>False⟩) (H:=H) i 0
  rw[ap]at this;exact this
theorem pa {x:Operand}{i off:Nat}{tt:TypeId}{cs:List AV}{v:AV}{e:TypeId}{av:AV}(hx:ge t x=some av)(hbx:gj av=some (i,off))(hi:look i σ=some (.cellsT tt cs))(hv:cs[off]?=some v)
 (ha:jk X.P e=some false):QJ X ⟨d,.load e x,ty,pos,aft,g⟩ t σ (v):=
 QJ.value (by simp) (fun γ H a w so sm=>by
  have h1:=so _ (by simp[Op.operands,Call.operands]) _ hx
  have hq:=cR hbx h1
  obtain⟨us,h2,h3,h4⟩:=sm.ent i _ hi
  have hlt:off<us.length:=by rw[h3];exact(List.getElem?_eq_some_iff.1 hv).1
  refine⟨us[off],?_,h4 off v _ hv (by simp[hlt])⟩
  have hc:w.cell? ⟨(γ i).b,off,none⟩=some us[off]:=by rw[aU h2];simp[hlt]
  simp[execOp,Instr.loadAt,Instr.sureAddr,hq,dC (bK ha) hc])
theorem xO (i:Nat){e:TypeId}{cs:List AV}(hi:look i σ=some (.cellsT e cs)):SJ X t σ t ((i,.cells cs)::σ):=fun γ H a w s=>by
 have g:∀j f,look j ((i,Ent.cells cs)::σ)=some f→∀b,blk γ j f b→∃f',look j σ=some f'∧blk γ j f' b:=fun j f hj b hb=>by
  rw[ae]at hj
  split at hj
  ·next e=>subst e;cases hj;exact⟨_,hi,hb⟩
  ·exact⟨f,hj,hb⟩
 refine⟨γ,H,s.lam,s.round,let⟨ms,h1,h2⟩:=s.defers;⟨ms,h1,h2.1,fun b hb=>⟨(h2.2 b hb).1,(h2.2 b hb).2.1,fun⟨j,f,hj,hbb⟩=>(h2.2 b hb).2.2 (let⟨f',h3,h4⟩:=g j f hj b hbb;⟨j,f',h3,h4⟩)⟩⟩,s.size,s.pinned,s.tmp,
  s.mem.keep,s.mem.hle,s.mem.hnew,s.mem.hok,fun j f hj=>?_,fun j f hj b hb=>let⟨f',h3,h4⟩:=g j f hj b hb;s.mem.free j f' h3 b h4,fun j f hj b hb=>let⟨f',h3,h4⟩:=g j f hj b hb;s.mem.fresh j f' h3 b h4,
  fun j f k f2 b hj hk hb hb'=>let⟨f',h3,h4⟩:=g j f hj b hb;let⟨f2',h5,h6⟩:=g k f2 hk b hb';s.mem.apart j f' k f2' b h3 h5 h4 h6⟩
 rw[ae]at hj
 split at hj
 ·next e=>
  subst e;cases hj
  obtain⟨us,h1,h2,h3⟩:=s.mem.ent j _ hi
  exact⟨_,us,h1,h2,h3⟩
 ·exact s.mem.ent j f hj
theorem uW {x:Operand}{i:Nat}{src dst tt e:TypeId}{cs:List AV}{ti:TypeInfo}(hx:ge t x=some (.box i 0))(hi:look i σ=some (.cellsT e cs))(hs:X.P.underlying src=some (.pointer tt))(hd:X.P.underlying dst=some .unsafePointer)(hti:X.P.info? tt=some ti)(h0:ti.size≠0)(hc:0<cs.length):
 QJ X ⟨d,.convert src dst x,ty,pos,aft,g⟩ t σ (.box i 0):=
 QJ.value (by simp) (fun γ H a w so sm=>by
  have h1:=so _ (by simp[Op.operands,Call.operands]) _ hx
  generalize hq:a.eval x=q at h1
  cases h1 with
  |box _ _=>
  obtain⟨us,h2,h3,h4⟩:=sm.ent i _ hi
  refine⟨_,?_,.box i 0⟩
  have:=Lib.run_to_unsafe (P:=X.P) (w:=w) (src:=src) (dst:=dst) (e:=e) (cells:=us.length) ⟨(γ i).b,0,none⟩ hs hd hti h0 (by simp[World.shape?,h2]) (by simp;omega)
  simp[execOp,hq,this])
theorem rj {x:Operand}{i:Nat}{src dst e:TypeId}{cs:List AV}{ti:TypeInfo}(hx:ge t x=some (.box i 0))(hi:look i σ=some (.cellsT e cs))(hs:X.P.underlying src=some .unsafePointer)(hd:X.P.underlying dst=some (.pointer e))(hti:X.P.info? e=some ti)
 (hl:liesAt X.P X.P.depth e (cs.length/X.P.cellsOf e) 0 e 1=true):
 QJ X ⟨d,.convert src dst x,ty,pos,aft,g⟩ t σ (.box i 0):=
 QJ.value (by simp) (fun γ H a w so sm=>by
  have h1:=so _ (by simp[Op.operands,Call.operands]) _ hx
  generalize hq:a.eval x=q at h1
  cases h1 with
  |box _ _=>
  obtain⟨us,h2,h3,h4⟩:=sm.ent i _ hi
  refine⟨_,?_,.box i 0⟩
  have:=Lib.run_from_unsafe (P:=X.P) (w:=w) (src:=src) (dst:=dst) (u:=e) (e:=e) (cells:=us.length) ⟨(γ i).b,0,none⟩ hs hd hti (by simp[World.shape?,h2]) (by rw[h3];exact hl)
  simp[execOp,hq,this])
end typed
end Go.Gv
end
section
namespace Go.Gv
open Go.RowKit
section us
variable {X:Cx} {d:Option Nat} {ty:TypeId} {pos:String} {aft:Array Edge} {g:Option (Nat×Bool)} {t:T} {σ:Sg} {K:T→Sg→Prop}
theorem uX {f:FuncId}{fn:Func}{x:Operand}{tys:Array TypeId}{V:AV}(hx:ge t x=some V)(hf:X.P.funcs[f]?=some fn)(hname:(fn.name== "runtime.NumGoroutine")=false)(hb:fn.body.isNone=true)(hn:Extern.findNext fn=none)(he:Extern.find fn=some Extern.AbiNoEscape.same):
 QJ X ⟨d,.call {callee:=.value (.func f),args:=#[x],argTypes:=tys},ty,pos,aft,g⟩ t σ V:=
 QJ.value (by simp) (fun γ H a w so sm=>by
  have h1:=so x (by simp[Op.operands,Call.operands]) _ hx
  refine⟨a.eval x,?_,h1⟩
  have:=run_callFunc_extern hf hname hb hn he (#[a.eval x]++#[]) w
  simp only[Array.append_empty,Lib.run_noEscape,Result.andThen_ok]at this
  simpa[execOp,resolve,Act.eval,Deferred.ofValue,invoke]using this)
theorem tz {x:Operand}{i n:Nat}{tys:Array TypeId}(hx:ge t x=some (.arr i 1 n))(hn:0<n):QJ X ⟨d,.call {callee:=.builtin .unsafeSliceData,args:=#[x],argTypes:=tys},ty,pos,aft,g⟩ t σ (.box i 0):=
 QJ.value (by simp) (fun γ H a w so sm=>by
  have h1:=so x (by simp[Op.operands,Call.operands]) _ hx
  generalize hq:a.eval x=q at h1
  cases h1 with
  |arr _ _ _ A hcap hA=>
  have hA':=hA (by omega)
  subst hA'
  refine⟨_,?_,.box i 0⟩
  have:=Lib.run_unsafeSliceData_row (P:=X.P) (w:=w) tys ty ⟨(γ i).b,0,none⟩ n (γ i).n (by omega)
  simp[execOp,resolve,invoke,builtin,hq,this])
theorem o9 {x:Operand}{tys:Array TypeId}{n c:Nat}(hx:ge t x=some (.d (.v (.slice none n c)))):QJ X ⟨d,.call {callee:=.builtin .unsafeSliceData,args:=#[x],argTypes:=tys},ty,pos,aft,g⟩ t σ (.d (.v (.pointer none))):=
 QJ.value (by simp) (fun γ H a w so sm=>by
  have h1:=aV (so x (by simp[Op.operands,Call.operands]) _ hx)
  refine⟨_,?_,.d _ _ (.v _ rfl)⟩
  have:=Lib.run_unsafeSliceData_nil (P:=X.P) (w:=w) tys ty n c
  simp[execOp,resolve,invoke,builtin,h1,this])
theorem o8 {x y:Operand}{pt it:TypeId}(hx:ge t x=some (.d (.v (.pointer none))))(hy:ge t y=some (.d (.v (.int .i64 0)))):QJ X ⟨d,.call {callee:=.builtin .unsafeString,args:=#[x,y],argTypes:=#[pt,it]},ty,pos,aft,g⟩ t σ (.d (.v (.string .empty))):=
 QJ.value (by simp) (fun γ H a w so sm=>by
  have h1:=aV (so x (by simp[Op.operands,Call.operands]) _ hx)
  have h2:=aV (so y (by simp[Op.operands,Call.operands]) _ hy)
  refine⟨_,?_,.d _ _ (.v _ rfl)⟩
  have hdef:=Lib.run_unsafeString_none (P:=X.P) (w:=w) pt it ty none
  simp[execOp,resolve,invoke,builtin,h1,h2,hdef])
theorem sY {H:HF}{xs:List (List D)}{ns:List Int}(hb:dM xs=some ns){us:List Value}(h5:∀(j l:Nat)(cs:List D)(a:D)(u:Value),xs[j]?=some cs→cs[l]?=some a→us[j*1+l]?=some u→RepD H a u){j:Nat}{n:Int}{u:Value}(hj:ns[j]?=some n)(hu:us[j]?=some u):u=.int .u8 n:=by
 have h1:=(gh hb).2 j n hj
 have:=h5 j 0 _ (.v (.int .u8 n)) u h1 rfl (by simpa using hu)
 cases this;rfl
theorem tw {x y:Operand}{i n:Nat}{e pt it:TypeId}{xs:List (List D)}{ns:List Int}(hx:ge t x=some (.box i 0))(hy:ge t y=some (.d (.v (.int .i64 (n:Int)))))(hi:look i σ=some (.arrT e 1 xs))(hb:dM xs=some ns)(h256:∀k,k∈ns→0≤k∧k<256)(hn:xs.length=n)(h0:0<n)(h63:n≤9223372036854775807)
 (hp:X.P.underlying pt=some (.pointer e))(hc:X.P.cellsOf e=1)(hN:dOk d X.N=true)(k:K (putT d (.d (.v (.string (cZ ns)))) t) ((i,.gone)::σ)):OpJ X ⟨d,.call {callee:=.builtin .unsafeString,args:=#[x,y],argTypes:=#[pt,it]},ty,pos,aft,g⟩ t σ K:=by
 intro γ H a w s next Q' hk
 have hr:=aT s.tmp hx
 have hqy:=aV (aT s.tmp hy)
 generalize hq:a.eval x=q at hr
 cases hr with
 |box _ _=>
 obtain⟨hle,hk1,hreal⟩:=s.mem.ent i _ hi
 have hnl:=(gh hb).1
 have hcap:0<(γ i).n:=by omega
 obtain⟨us,h3,h4,h5⟩:=hreal hcap
 have hl:(ns.map fun n=>UInt8.ofNat n.toNat).length=n:=by rw[List.length_map,hnl,hn]
 have hrun:=Lib.run_unsafeString_row (P:=X.P) (w:=w) pt it ty e hp hc (γ i).b us.length (by simp[World.shape?,h3]) (ns.map fun n=>UInt8.ofNat n.toNat) (fun h=>by rw[h]at hl;simp at hl;omega) (by rw[hl,h4];omega) (by rw[hl];exact h63) (fun j x hj=>by
  simp only[List.getElem?_map,Option.map_eq_some_iff]at hj
  obtain⟨m,hm,rfl⟩:=hj
  have hjl:j<us.length:=by
   have:=(List.getElem?_eq_some_iff.1 hm).1
   rw[h4];omega
  have hu:us[j]?=some us[j]:=by simp[hjl]
  have:=sY hb h5 hm hu
  have h6:w.cell? ⟨(γ i).b,j,none⟩=some us[j]:=by rw[aU h3];simp[hjl]
  rw[show((⟨(γ i).b,0,none⟩:Addr).add j)=⟨(γ i).b,j,none⟩from by cases j<;>simp[Addr.add],h6,this]
  have hm2:=h256 m (aQ hm)
  congr 2
  rw[UInt8.toNat_ofNat']
  omega)
 rw[hl]at hrun
 have hexec:(execOp a.eval ⟨d,.call {callee:=.builtin .unsafeString,args:=#[x,y],argTypes:=#[pt,it]},ty,pos,aft,g⟩).run X.P w=.ok (.value (.string (cZ ns))) (w.freeze ⟨(γ i).b,0,none⟩ n):=by
  simp only[execOp,resolve,invoke,builtin,List.map_toArray,List.map_cons,List.map_nil,Sem.run_bind,Sem.run_pure,Result.andThen_ok,hq,hqy,hrun]
  rfl
 rw[aG (by simp),hexec,Oper.uponIn_value]
 have hs:SameBut (γ i).b w (w.freeze ⟨(γ i).b,0,none⟩ n):=by
  unfold World.freeze
  rw[if_neg (by omega)]
  exact⟨rfl,rfl,rfl,by simp,fun b hb=>by simp[Array.getElem?_modify,Ne.symm hb]⟩
 have hm:=s.mem.turn (e':=.gone) hi ⟨rfl,hcap⟩ hs trivial fun b hb=>hb.elim
 exact hk γ H _ _ _ _ (s.turn (d:=d) hi ⟨rfl,hcap⟩ hm hN (.d _ _ (.v _ rfl))) k
end us
end Go.Gv
end
section
namespace Go.Gv
open Go.RowKit
def qnL (f:AV→Option (List Nat)):List AV→Option (List Nat)
 |[]=>some []
 |a::r=>match f a,qnL f r with
  |some x,some y=>some (x++y)
  |_,_=>none
def qn0:AV→Option (List Nat)
 |.d _=>some []
 |.full _ _=>some []
 |.junk=>some []
 |.box j _=>some [j]
 |.boxX j _=>some [j]
 |.arr j _ _=>some [j]
 |.suf j _ _ _=>some [j]
 |.mp j=>some [j]
 |_=>none
def qn1:AV→Option (List Nat)
 |.agg cs=>qnL qn0 cs
 |.tup cs=>qnL qn0 cs
 |.fnp _ cs=>qnL qn0 cs
 |a=>qn0 a
def qn2:AV→Option (List Nat)
 |.agg cs=>qnL qn1 cs
 |.tup cs=>qnL qn1 cs
 |.fnp _ cs=>qnL qn1 cs
 |a=>qn0 a
theorem cT {f:AV→Option (List Nat)}{h:Nat→AV→Bool}(hf:∀{a l i},f a=some l→h i a=true→i∈l):∀{cs:List AV}{l:List Nat}{i:Nat},qnL f cs=some l→cs.any (h i)=true→i∈l
 |[],_,_,_,ha=>by simp at ha
 |a::r,l,i,hn,ha=>by
  simp only[qnL]at hn
  split at hn
  ·next x y hx hy=>
   cases hn
   simp only[List.any_cons,Bool.or_eq_true]at ha
   rcases ha with ha|ha
   ·exact List.mem_append.2 (.inl (hf hx ha))
   ·exact List.mem_append.2 (.inr (cT hf hy ha))
  ·cases hn
theorem gH {a:AV}{l:List Nat}{i:Nat}(h:qn0 a=some l)(hi:bX i a=true):i∈l:=by
 cases a<;>simp[qn0,bX]at h hi<;>first|(subst h;simp_all)|simp_all
theorem lB {a:AV}{l:List Nat}{i:Nat}(h:qn1 a=some l)(hi:cm i a=true):i∈l:=by
 cases a with
 |agg cs=>exact cT (h:=bX) (fun h k=>gH h k) h hi
 |tup cs=>exact cT (h:=bX) (fun h k=>gH h k) h hi
 |fnp f cs=>exact cT (h:=bX) (fun h k=>gH h k) h hi
 |_=>simp only[qn1,cm]at h hi;exact gH h hi
theorem lA {a:AV}{l:List Nat}{i:Nat}(h:qn2 a=some l)(hi:aP i a=true):i∈l:=by
 cases a with
 |agg cs=>exact cT (h:=cm) (fun h k=>lB h k) h hi
 |tup cs=>exact cT (h:=cm) (fun h k=>lB h k) h hi
 |fnp f cs=>exact cT (h:=cm) (fun h k=>lB h k) h hi
 |_=>simp only[qn2,aP]at h hi;exact gH h hi
def Dr:Ent→Option (List Nat)
 |.cells cs=>qnL qn2 cs
 |.cellsT _ cs=>qnL qn2 cs
 |_=>some []
theorem sL {e:Ent}{l:List Nat}{i:Nat}(h:Dr e=some l)(hi:aJ i e=true):i∈l:=by
 cases e with
 |cells cs=>exact cT (h:=aP) (fun h k=>lA h k) h hi
 |cellsT t cs=>exact cT (h:=aP) (fun h k=>lA h k) h hi
 |_=>cases hi
def Bn:Sg→Option (List Nat)
 |[]=>some []
 |(_,e)::r=>match Dr e,Bn r with
  |some x,some y=>some (x++y)
  |_,_=>none
theorem nr:∀{σ:Sg}{l:List Nat}{i j:Nat}{e:Ent},Bn σ=some l→look i σ=some e→aJ j e=true→j∈l
 |[],_,_,_,_,_,h,_=>by simp[look]at h
 |(k,f)::r,l,i,j,e,hn,h,hj=>by
  simp only[Bn]at hn
  split at hn
  ·next x y hx hy=>
   cases hn
   rw[ae]at h
   split at h
   ·cases h;exact List.mem_append.2 (.inl (sL hx hj))
   ·exact List.mem_append.2 (.inr (nr hy h hj))
  ·cases hn
def BU (j:Nat):Sg→Bool
 |[]=>false
 |(k,_)::r=>Nat.beq j k||BU j r
theorem pS:∀{σ:Sg}{j:Nat},BU j σ=true→(look j σ).isSome=true
 |[],_,h=>by cases h
 |(k,e)::r,j,h=>by
  rw[ae]
  split
  ·rfl
  ·next hne=>
   simp only[BU,Bool.or_eq_true]at h
   rcases h with h|h
   ·exact absurd (Nat.eq_of_beq_eq_true h) hne
   ·exact pS h
def oL (pin:List Nat)(r:AV)(σ:Sg):Bool:=match qn2 r,Bn σ with
 |some a,some b=>(a++b).all fun j=>BU j σ||pin.any (Nat.beq j)
 |_,_=>false
theorem xx {pin:List Nat}{r:AV}{σ:Sg}(h:oL pin r σ=true):eZ pin r σ:=by
 unfold oL at h
 split at h
 ·next a b ha hb=>
  have key:∀j,j∈a++b→(look j σ).isSome=true∨j∈pin:=fun j hj=>by
   have:=List.all_eq_true.1 h j hj
   rcases Bool.or_eq_true_iff.1 this with h|h
   ·exact .inl (pS h)
   ·obtain⟨k,hk,e⟩:=List.any_eq_true.1 h
    rw[Nat.eq_of_beq_eq_true e];exact .inr hk
  exact⟨fun j hj=>key j (List.mem_append.2 (.inl (lA ha hj))),fun i e hi j hj=>key j (List.mem_append.2 (.inr (nr hb hi hj)))⟩
 ·cases h
theorem bg {X:Cx}{σ:Sg}{r:AV}{Q:AV→Sg→Prop}(σ':Sg)(hw:Wk σ' σ)(hc:oL X.pin r σ'=true)(k:Q r σ'):FinP X σ r Q:=FinP.of σ' hw (xx hc) k
theorem w7 {w:World}{H:HF}(hok:HOk H w)(γ:Ids)(i k:Nat)(e:TypeId):Mem w H (fun _=>False) (upd γ i ⟨w.heap.size,0,fun _=>False⟩) H [(i,.arrT e k [])] w:=by
 have hE:∀j f,look j [(i,Ent.arrT e k [])]=some f→j=i∧f=.arrT e k []:=fun j f hj=>by
  rw[ae]at hj
  split at hj
  ·next e1=>cases hj;exact⟨e1,rfl⟩
  ·cases hj
 have hn:(upd γ i ⟨w.heap.size,0,fun _=>False⟩ i).n=0:=by rw[ap]
 have hnob:∀j f b,look j [(i,Ent.arrT e k [])]=some f→¬blk (upd γ i ⟨w.heap.size,0,fun _=>False⟩) j f b:=fun j f b hj hb=>by
  obtain⟨rfl,rfl⟩:=hE j f hj
  have:=hb.2;rw[hn]at this;cases this
 exact⟨Keeps.refl _ _,HLe.refl _,HNew.refl _ _ _,hok,fun j f hj=>by
  obtain⟨rfl,rfl⟩:=hE j f hj
  exact⟨Nat.zero_le _,(by simp),fun h=>by rw[hn]at h;cases h⟩,
  fun j f hj b hb=>(hnob j f b hj hb).elim,fun j f hj b hb=>(hnob j f b hj hb).elim,fun j f l f' b hj hl hb=>(hnob j f b hj hb).elim⟩
end Go.Gv
namespace Go.Gv
open Go.RowKit
section samebox
variable {X:Cx} {d:Option Nat} {ty:TypeId} {pos:String} {aft:Array Edge} {g:Option (Nat×Bool)} {t:T} {σ:Sg}
theorem zz {P:Program}{tt e:TypeId}{w:World}(n:Nat){b o k:Nat}(hu:P.underlying tt=some (.pointer e))(hs:fu P e=some k):(Op.equalIn (n+1) tt (.pointer (some ⟨b,o,none⟩)) (.pointer (some ⟨b,o,none⟩))).run P w=.ok true w:=by
 simp[Op.equalIn,underlying,hu,aK hs,sameAddr]
theorem AD {x y:Operand}{i off:Nat}{ot e yt:TypeId}(hx:ge t x=some (.box i off))(hy:ge t y=some (.box i off)){k:Nat}(hu:X.P.underlying ot=some (.pointer e))(hs:fu X.P e=some k):
 QJ X ⟨d,.binOp .neq ot x y yt,ty,pos,aft,g⟩ t σ (.d (.v (.bool false))):=
 QJ.value (by simp) (fun γ H a w so sm=>by
  have h1:=cR rfl (so x (by simp[Op.operands]) _ hx)
  have h2:=cR rfl (so y (by simp[Op.operands]) _ hy)
  have he:∀w,(Op.equal ot (.pointer (some ⟨(γ i).b,off,none⟩)) (.pointer (some ⟨(γ i).b,off,none⟩))).run X.P w=.ok true w:=fun w=>cK.trans (zz 9999 hu hs)
  refine⟨_,?_,.d _ _ (.v _ rfl)⟩
  simp[execOp,h1,h2,eqGuard,binOp,he])
end samebox
end Go.Gv
namespace Go.Gv
open Go.RowKit
theorem uQ {X:Cx}{t:T}{σ:Sg}(i j k:Nat)(et:TypeId)(hj:look j t=some (.d (.v (.slice none 0 0))))(hf:am i t σ X.pin=true):SJ X t σ ((j,.arr i k 0)::t) ((i,.arrT et k [])::σ):=fun γ H a w s=>by
 have key:=s.new (d:=none) (V:=.junk) (v:=undef) (n:=0) (w7 s.mem.hok γ i k et) hf rfl (.junk _)
 refine⟨_,H,key.tmps fun l b hl=>?_⟩
 rw[ae]at hl
 split at hl
 ·next e=>
  subst e
  simp only[Option.some.injEq]at hl;subst hl
  obtain⟨u,hu,r⟩:=s.tmp _ _ hj
  obtain rfl:=aV r
  refine⟨_,hu,?_⟩
  have:=Rep.arr (γ:=upd γ i ⟨w.heap.size,0,fun _=>False⟩) (H:=H) i k 0 none
  rw[ap]at this
  exact this (Nat.zero_le _) (fun h=>by simp at h)
 ·exact key.tmp l b hl
end Go.Gv
namespace Go.Gv
inductive Sq (X:Cx)(b:Code)(Q:Qt):Exit→T→Sg→Prop where
 |go {t:T} {σ:Sg} (h:WJ X b t σ Q):Sq X b Q .normal t σ
 |out {e:Exit} {t:T} {σ:Sg} (he:e≠ .normal) (h:Q e t σ):Sq X b Q e t σ
theorem WJ.cut {X:Cx}{a b:Code}{t:T}{σ:Sg}{Q:Qt}(h:vc X a t σ (Sq X b Q)):WJ X (.seq a b) t σ Q:=
 WJ.seq ((aq a t σ _ h).mono fun e t σ q=>by
  cases q with
  |go h=>exact h
  |out he h=>cases e<;>first|exact absurd rfl he|exact h)
theorem af {X:Cx}{all:Array Oper}{t:T}{σ:Sg}{Q:T→Sg→Prop}(h:Q t σ):vL X all [] t σ Q:=h
theorem aD {Λ:Amb}{P:Program}{f:FuncId}(fn:Func){c:Code}{avs:List AV}{σ:Sg}{Q:AV→Sg→Prop}(hf:P.funcs[f]?=some fn)(hb:fn.body=some c)
 (hl:Nat.ble avs.length fn.ntmps=true)
 (h:∀w H B g0,WJ ⟨P,Λ,none,w,H,B,fn.ntmps,fz σ,g0⟩ c (eo 0 avs) σ (DF ⟨P,Λ,none,w,H,B,fn.ntmps,fz σ,g0⟩ fn Q)):Ct Λ P f avs σ Q:=
 tH fn.ntmps hf hb rfl (Nat.le_of_ble_eq_true hl) fun w H B g0=>(h w H B g0).mono fun _ _ _ q=>nh q
end Go.Gv
end
section
namespace Go.Gv
open Go.RowKit
end Go.Gv
end
section
namespace Go.Gv
open Go.RowKit
section
variable {X:Cx} {all:Array Oper}
def OneJ (X:Cx)(all:Array Oper)(i:Nat)(t:T)(σ:Sg)(K:T→Sg→Prop):Prop:=
 ∀γ H a w,St X γ H t σ a w→∀(next:Act→World→Prop)(Q':Exit→Act→World→Prop),(∀γ H t σ a w,St X γ H t σ a w→K t σ→next a w)→wpOpIn (Fr X.ro) 0 X.P all Q' i next a w
theorem OneJ.wk {i:Nat}{t t':T}{σ:Sg}{K:T→Sg→Prop}(hw:Wk t' t)(h:OneJ X all i t' σ K):OneJ X all i t σ K:=fun γ H a w s=>h γ H a w (s.wk hw (Wk.refl _))
theorem OneJ.op {i:Nat}{o:Oper}{t:T}{σ:Sg}{K:T→Sg→Prop}(ho:all[i]?=some o)(hg:o.guard=none)(h:OpJ X o t σ K):OneJ X all i t σ K:=by
 intro γ H a w s next Q' hn
 unfold wpOpIn
 simp only[ho]
 have hw:Region.wanted o (yielded all a.tmps)=true:=by simp[Region.wanted,hg]
 rw[if_pos hw]
 exact⟨fun _ _=>trivial,h γ H a w s _ _ hn⟩
theorem OneJ.guard {i:Nat}{o:Oper}{t:T}{σ:Sg}{K:T→Sg→Prop}{j:Nat}{b:Bool}{d:Nat}(ho:all[i]?=some o)(hg:o.guard=some (j,b))(hd:((all[j]?).bind (·.dst))=some d)(hN:dOk o.dst X.N=true)
 (h:match look d t with
  |some (.d (.v (.bool b')))=>(b'=b→OpJ X o t σ K)∧(b'≠b→K (putT o.dst (.tup []) t) σ)
  |some (.tup [])=>K (putT o.dst (.tup []) t) σ
  |_=>False):OneJ X all i t σ K:=by
 intro γ H a w s next Q' hn
 unfold wpOpIn
 simp only[ho]
 have skip:K (putT o.dst (.tup []) t) σ→next (a.put o.dst undef) w:=fun h=>hn γ H _ _ _ _ (s.calm (s.mem.refl γ) hN cC) h
 split at h
 ·next b' hb=>
  obtain⟨u,hu,r⟩:=s.tmp d _ hb
  obtain rfl:=aV r
  by_cases e:b'=b
  ·have hw:Region.wanted o (yielded all a.tmps)=true:=by simp[Region.wanted,hg,yielded,hd,hu,e]
   rw[if_pos hw]
   exact⟨fun _ _=>trivial,h.1 e γ H a w s _ _ hn⟩
  ·have hw:Region.wanted o (yielded all a.tmps)=false:=by simp[Region.wanted,hg,yielded,hd,hu];exact e
   simp only[hw,Bool.false_eq_true,if_false]
   exact⟨fun _ _=>trivial,skip (h.2 e)⟩
 ·next hb=>
  obtain⟨u,hu,r⟩:=s.tmp d _ hb
  obtain rfl:=cP r
  have hw:Region.wanted o (yielded all a.tmps)=false:=by simp[Region.wanted,hg,yielded,hd,hu,undef]
  simp only[hw,Bool.false_eq_true,if_false]
  exact⟨fun _ _=>trivial,skip h⟩
 ·exact h.elim
def Ep (l:List Bool)(i:Nat):Bool:=match l[i]? with
 |some b=>b
 |none=>false
def De (ls:List Bool)(o:Oper):Bool:=o.after.toList.all fun e=>match Region.binds .any e with
 |false=>true
 |true=>Ep ls e.on
def rdy (all:Array Oper)(ls:List Bool):List Nat:=(List.range all.size).filter fun i=>match ls[i]?,all[i]? with
 |some false,some o=>De ls o
 |_,_=>false
def ES:List Nat→(Nat→Prop)→Prop
 |[],_=>True
 |[i],p=>p i
 |i::j::r,p=>p i∧ES (j::r) p
theorem ta {p:Nat→Prop}:∀{l:List Nat},ES l p→∀i,i∈l→p i
 |[i],h,k,hk=>by simp at hk;subst hk;exact h
 |i::j::r,h,k,hk=>by
  rcases List.mem_cons.1 hk with rfl|hk
  ·exact h.1
  ·exact ta (l:=j::r) h.2 k hk
 |[],_,k,hk=>by simp at hk
def vO (X:Cx)(all:Array Oper)(Q:T→Sg→Prop):Nat→List Bool→T→Sg→Prop
 |0,ls,t,σ=>match rdy all ls with
  |[]=>Q t σ
  |_::_=>False
 |n+1,ls,t,σ=>match rdy all ls with
  |[]=>Q t σ
  |l=>ES l fun i=>match all[i]? with
   |none=>False
   |some o=>match o.guard with
    |none=>eff X o t σ fun t σ=>vO X all Q n (ls.set i true) t σ
    |some (j,b0)=>match p4 all j,dOk o.dst X.N with
     |some d,true=>(match look d t with
      |some (.d (.v (.bool b)))=>grd b0 b d t (fun t=>eff X o t σ fun t σ=>vO X all Q n (ls.set i true) t σ) (fun t=>vO X all Q n (ls.set i true) (putT o.dst (.tup []) t) σ)
      |some (.tup [])=>vO X all Q n (ls.set i true) (putT o.dst (.tup []) t) σ
      |_=>False)
     |_,_=>False
theorem yH (ls:List Bool):rdy all ls=Region.ready .any all ls.toArray:=by
 unfold rdy Region.ready
 apply List.filter_congr
 intro i _
 have g1:ls.toArray.getD i true=(match ls[i]? with|some b=>b|none=>true):=by
  rw[Array.getD_eq_getD_getElem?];cases h:ls[i]?<;>simp[h]
 have g2:∀k,ls.toArray.getD k false=Ep ls k:=fun k=>by
  rw[Array.getD_eq_getD_getElem?,Ep];cases h:ls[k]?<;>simp[h]
 rw[g1]
 cases h:ls[i]? with
 |none=>simp
 |some b=>
  cases b with
  |true=>simp
  |false=>
   cases ho:all[i]? with
   |none=>simp
   |some o=>
    simp only[Bool.not_false,Bool.true_and,Option.map_some,Option.getD_some]
    unfold De
    rw[←Array.all_toList]
    congr 1
    funext e
    rw[g2]
    cases Region.binds .any e<;>rfl
theorem gz {Q:T→Sg→Prop}{Q':Exit→Act→World→Prop}(hQ:∀γ H t σ a w,St X γ H t σ a w→Q t σ→Q' .normal a w):∀(n:Nat)(ls:List Bool)(t:T)(σ:Sg),vO X all Q n ls t σ→
 ∀γ H a w,St X γ H t σ a w→wpAnyIn (Fr X.ro) 0 X.P .any all Q' n ls.toArray a w
 |0,ls,t,σ,h,γ,H,a,w,s=>by
  unfold vO at h
  unfold wpAnyIn
  rw[←yH]
  split at h
  ·next hr=>exact⟨hr,hQ γ H t σ a w s h⟩
  ·exact h.elim
 |n+1,ls,t,σ,h,γ,H,a,w,s=>by
  unfold vO at h
  unfold wpAnyIn
  rw[←yH]
  split at h
  ·next hr=>exact⟨fun _=>hQ γ H t σ a w s h,fun i hi=>by rw[hr]at hi;simp at hi⟩
  ·next hr=>
   refine⟨fun e=>absurd e hr,fun i hi=>?_⟩
   have hp:=ta h i hi
   have hset:ls.toArray.setIfInBounds i true=(ls.set i true).toArray:=by simp
   rw[hset]
   have ih:=fun t σ (h:vO X all Q n (ls.set i true) t σ)=>gz hQ n (ls.set i true) t σ h
   suffices hone:OneJ X all i t σ (fun t σ=>vO X all Q n (ls.set i true) t σ)from hone γ H a w s _ _ fun γ H t σ a w s' k=>ih t σ k γ H a w s'
   split at hp
   ·exact hp.elim
   ·next o ho=>
    split at hp
    ·next hg=>exact .op ho hg (d6 hp)
    ·next j b0 hg=>
     split at hp
     ·next d hd hN=>
      have hd':((all[j]?).bind (·.dst))=some d:=by rw[kY];exact hd
      split at hp
      ·next b hb=>
       have yes:∀c,b=c→eff X o ((d,.d (.v (.bool c)))::t) σ (fun t σ=>vO X all Q n (ls.set i true) t σ)→c=b0→OneJ X all i t σ (fun t σ=>vO X all Q n (ls.set i true) t σ):=fun c hc he hcb=>by
        subst hc;subst hcb
        refine OneJ.wk (Wk.cons hb (Wk.refl t)) (OneJ.guard ho hg hd' hN ?_)
        rw[ae,if_pos rfl]
        exact⟨fun _=>d6 he,fun hne=>absurd rfl hne⟩
       have no:∀c,b=c→vO X all Q n (ls.set i true) (putT o.dst (.tup []) ((d,.d (.v (.bool c)))::t)) σ→c≠b0→OneJ X all i t σ (fun t σ=>vO X all Q n (ls.set i true) t σ):=fun c hc he hcb=>by
        subst hc
        refine OneJ.wk (Wk.cons hb (Wk.refl t)) (OneJ.guard ho hg hd' hN ?_)
        rw[ae,if_pos rfl]
        exact⟨fun e=>absurd e hcb,fun _=>he⟩
       cases b0 with
       |true=>cases b with
        |true=>exact yes true rfl (hp.1 rfl) rfl
        |false=>exact no false rfl (hp.2 rfl) (by simp)
       |false=>cases b with
        |true=>exact no true rfl (hp.1 rfl) (by simp)
        |false=>exact yes false rfl (hp.2 rfl) rfl
      ·next hb=>
       refine OneJ.guard ho hg hd' hN ?_
       rw[hb]
       exact hp
      ·exact hp.elim
     ·exact hp.elim
def dc:Nat→List Bool
 |0=>[]
 |n+1=>false::dc n
theorem fi:∀n,dc n=List.replicate n false
 |0=>rfl
 |n+1=>by rw[dc,fi n,List.replicate_succ]
theorem tp {id:Nat}{ops:Array Oper}{t:T}{σ:Sg}{Q:T→Sg→Prop}(hm:X.P.follows .mixedOrders=true)(h:vO X ops Q ops.size (dc ops.size) t σ):RegP X id ops t σ Q:=by
 intro Q' hQ γ H a w s
 refine wpIn_region_any hm ?_
 have s':St X γ H t σ a {w with drawn:=w.drawn+1}:=⟨s.lam,s.round,s.defers,s.size,s.pinned,s.tmp,s.mem.drew⟩
 have:=gz (Q:=Q) (Q':=pn X Q') (fun γ H t σ a w s q=>⟨γ,H,t,σ,s,hQ t σ q⟩) ops.size (dc ops.size) t σ h γ H a _ s'
 rw[fi]at this
 simpa using this
def fT:Nat→List Bool→List Bool
 |0,l=>l
 |n+1,l=>true::fT n l
theorem iJ:∀n l,fT n l=List.replicate n true++l
 |0,l=>rfl
 |n+1,l=>by rw[fT,iJ n,List.replicate_succ];rfl
theorem Ge {id:Nat}{ops:Array Oper}{t:T}{σ:Sg}{Q:T→Sg→Prop}(m:Nat)(hm:X.P.follows .mixedOrders=true)(hc:(oR ops m&&Nat.ble m ops.size)=true)
 (h:vB X ops σ (fun t σ=>vO X ops Q (ops.size-m) (fT m (dc (ops.size-m))) t σ) (ops.toList.take m) t []):RegP X id ops t σ Q:=by
 intro Q' hQ
 simp only[Bool.and_eq_true,Nat.ble_eq]at hc
 refine tf m hm (oQ hc.1) hc.2 (fun t σ h3 γ H a w lst hst hls hlst=>?_) (ft _ _ _ h)
 have e:lst=(fT m (dc (ops.size-m))).toArray:=by
  rw[iJ,fi]
  apply Array.ext
  ·simp[hls];omega
  ·intro j h1 h2
   have hj:=hlst j (by omega)
   rw[Array.getD_eq_getD_getElem?,Array.getElem?_eq_getElem h1,Option.getD_some]at hj
   rw[hj,List.getElem_toArray,List.getElem_append]
   split
   ·next h3=>simp at h3;simp[h3]
   ·next h3=>simp at h3;simp;omega
 rw[e]
 exact gz (Q:=Q) (Q':=pn X Q') (fun γ H t σ a w s q=>⟨γ,H,t,σ,s,hQ t σ q⟩) (ops.size-m) _ t σ h3 γ H a w hst
end
end Go.Gv
end
section
namespace Go.Gv
open Go.RowKit
structure CalmC (all:Array Oper)(m1:Nat):Prop where
 back:∀j o,all[j]?=some o→∀e,e∈o.after→Region.binds .any e=true→e.on<j
 tail:∀j o,all[j]?=some o→m1<j→∀i,i<m1→Anc all j i
 names:∀j o,j≤m1→all[j]?=some o→∀i p,i<j→all[i]?=some p→cb o i=true∨((∀x,p.dst=some x→aB all o x=false)∧∀x,o.dst=some x→aB all p x=false)
theorem xD {X:Cx}{all:Array Oper}{m m1:Nat}{t0:T}{σ:Sg}{V:Nat→AV}{E:Nat→Option (Nat×Ent)}{Q':Exit→Act→World→Prop}(hmm:m=m1+1)(hc:CalmC all m1)(hm:m≤all.size)(hE1:E m1=none)
 (hendB:∀γ H a w listed,St X γ H (aM all V t0 m1) (au E (fun _=>true) σ m1) a w→listed.size=all.size→(∀j,j<all.size→listed.getD j false=decide (j<m1))→wpAnyIn (Fr X.ro) 0 X.P .any all Q' (all.size-m1) listed a w)
 (hstep:∀i o,i<m→all[i]?=some o→wn X all o (aM all V t0 i) σ (V i) (E i)∧dOk o.dst X.N=true)
 (hfr:∀i id e,E i=some (id,e)→am id t0 σ X.pin=true∧(∀j x,j<m→j≠i→aY all j=some x→aP id (V j)=false)∧∀j id' e',j≠i→E j=some (id',e')→id'≠id∧aJ id e'=false)
 (hend:∀γ H a w listed,St X γ H (aM all V t0 m) (au E (fun _=>true) σ m) a w→listed.size=all.size→(∀j,j<all.size→listed.getD j false=decide (j<m))→wpAnyIn (Fr X.ro) 0 X.P .any all Q' (all.size-m) listed a w):
 ∀(fuel:Nat)(listed:Array Bool)(γ:Ids)(H:HF)(a:Act)(w:World),listed.size=all.size→
  (∀j,m≤j→listed.getD j false=false)→(∀i o,listed.getD i false=true→all[i]?=some o→∀e,e∈o.after→Region.binds .any e=true→listed.getD e.on false=true)→
  ((List.range m).filter fun j=>!listed.getD j false).length+(all.size-m)=fuel→
  mE γ H (aN all V t0 (fun j=>listed.getD j false) m) a.tmps→St X γ H [] (au E (fun j=>listed.getD j false) σ m) a w→
  wpAnyIn (Fr X.ro) 0 X.P .any all Q' fuel listed a w:=by
 intro fuel
 induction fuel with
 |zero=>
  intro listed γ H a w hs htail hclosed hcount htab sst
  have hall:∀j,j<m→listed.getD j false=true:=fun j hj=>by
   have h0:((List.range m).filter fun j=>!listed.getD j false)=[]:=List.length_eq_zero_iff.1 (by omega)
   have:=List.filter_eq_nil_iff.1 h0 j (List.mem_range.2 hj)
   simpa using this
  have hmn:m=all.size:=by omega
  have hst:St X γ H (aM all V t0 m) (au E (fun _=>true) σ m) a w:=dm (by have h9:=sst;rw[aI (S':=fun _=>true) m (fun j hj _=>hall j hj)]at h9;exact h9) (fun i b hi=>htab i b (by
   rw[bu]at hi
   rw[←hi]
   simp only[aN]
   rw[aA m (fun j hj _=>hall j hj)]))
  have:=hend γ H a w listed hst hs (fun j hj=>by rw[hall j (by omega)];simp;omega)
  rw[show all.size-m=0 from by omega]at this;exact this
 |succ fuel ih=>
  intro listed γ H a w hs htail hclosed hcount htab sst
  by_cases hall:∀j,j<m→listed.getD j false=true
  ·
   have hst:St X γ H (aM all V t0 m) (au E (fun _=>true) σ m) a w:=dm (by have h9:=sst;rw[aI (S':=fun _=>true) m (fun j hj _=>hall j hj)]at h9;exact h9) (fun i b hi=>htab i b (by
    rw[bu]at hi
    rw[←hi]
    simp only[aN]
    rw[aA m (fun j hj _=>hall j hj)]))
   have h0:((List.range m).filter fun j=>!listed.getD j false)=[]:=List.filter_eq_nil_iff.2 fun j hj=>by simp only[hall j (List.mem_range.1 hj)];simp
   rw[h0]at hcount
   simp only[List.length_nil,Nat.zero_add]at hcount
   have:=hend γ H a w listed hst hs (fun j hj=>by
    by_cases hj':j<m
    ·rw[hall j hj'];simp[hj']
    ·rw[htail j (by omega)];simp;omega)
   rw[hcount]at this
   exact this
  ·rcases Classical.em (∀j,j<m1→listed.getD j false=true)with hall1|hall1
   ·have hl1:listed.getD m1 false=false:=by
     cases hx:listed.getD m1 false with
     |false=>rfl
     |true=>
      refine absurd (fun j hj=>?_) hall
      by_cases e:j=m1
      ·rw[e];exact hx
      ·exact hall1 j (by omega)
    have hlb:au E (fun j=>listed.getD j false) σ m=au E (fun _=>true) σ m1:=by
     rw[hmm];simp only[au,hE1];exact aI m1 (fun j hj _=>hall1 j hj)
    have hst:St X γ H (aM all V t0 m1) (au E (fun _=>true) σ m1) a w:=dm (by have h9:=sst;rw[hlb]at h9;exact h9) (fun i b hi=>htab i b (by
     rw[bu]at hi
     rw[←hi]
     simp only[aN]
     have:bB all (fun j=>listed.getD j false) i m=bB all (fun _=>true) i m1:=by
      rw[hmm];simp only[bB,hl1,Bool.false_eq_true,false_and,if_false];exact aA m1 (fun j hj _=>hall1 j hj)
     rw[this]))
    have h0:((List.range m).filter fun j=>!listed.getD j false)=[m1]:=by
     have e1:(List.range m1).filter (fun j=>!listed.getD j false)=[]:=List.filter_eq_nil_iff.2 fun j hj=>by simp only[hall1 j (List.mem_range.1 hj)];simp
     rw[hmm,List.range_succ,List.filter_append,e1,List.nil_append]
     simp only[List.filter_cons,List.filter_nil,hl1,Bool.not_false,if_true]
    rw[h0]at hcount
    simp only[List.length_cons,List.length_nil]at hcount
    have:=hendB γ H a w listed hst hs (fun j hj=>by
     by_cases hj':j<m1
     ·rw[hall1 j hj'];simp[hj']
     ·by_cases e:j=m1
      ·rw[e,hl1];simp
      ·rw[htail j (by omega)];simp;omega)
    rw[show all.size-m1=fuel+1 from by omega]at this
    exact this
   refine⟨fun hn=>?_,fun i hi=>?_⟩
   ·
    exfalso
    have hex:∃j,j<m∧listed.getD j false=false:=by
     refine Classical.byContradiction fun hno=>hall fun j hj=>?_
     cases hx:listed.getD j false with
     |true=>rfl
     |false=>exact absurd ⟨j,hj,hx⟩ hno
    have hmin:∃j,j<m∧listed.getD j false=false∧∀i,i<j→listed.getD i false=true:=by
     obtain⟨j,hj⟩:=hex
     induction j using Nat.strongRecOn with
     |_ j ihj=>
      by_cases hlow:∀i,i<j→listed.getD i false=true
      ·exact⟨j,hj.1,hj.2,hlow⟩
      ·have:∃i,i<j∧listed.getD i false=false:=by
        refine Classical.byContradiction fun hno=>hlow fun i hi=>?_
        cases hx:listed.getD i false with
        |true=>rfl
        |false=>exact absurd ⟨i,hi,hx⟩ hno
       obtain⟨i,hi,hx⟩:=this
       exact ihj i hi ⟨by omega,hx⟩
    obtain⟨j,hj,hjl,hlow⟩:=hmin
    have hjn:j<all.size:=by omega
    have hmem':j∈Region.ready .any all listed:=by
     rw[mem_ready]
     refine⟨?_,all[j],by simp[hjn],fun e he hb=>hlow _ (hc.back j all[j] (by simp[hjn]) e he hb)⟩
     rw[Array.getD_eq_getD_getElem?]at hjl ⊢
     rw[Array.getElem?_eq_getElem (by omega)]at hjl ⊢
     simpa using hjl
    rw[hn]at hmem';cases hmem'
   ·obtain⟨h1,o,ho,h2⟩:=dz hi
    obtain⟨hil,hif⟩:=jA h1
    have hin:i<all.size:=(Array.getElem?_eq_some_iff.1 ho).1
    have him:i<m:=by
     refine Classical.byContradiction fun hge=>hall1 fun j hj=>?_
     exact iy hclosed (hc.tail i o ho (by omega) j hj) ho h2
    have hwr:∀x,aB all o x=true→∀j,j<m→aY all j=some x→listed.getD j false=decide (j<i):=by
     intro x hx j hj hd'
     cases hp:all[j]? with
     |none=>simp[aY,hp]at hd'
     |some p=>
      simp only[aY,hp,Option.bind_some]at hd'
      by_cases hji:j<i
      ·rcases hc.names i o (by omega) ho j p hji hp with h3|⟨h3,_⟩
       ·rw[bb h3 h2];simp[hji]
       ·rw[h3 x hd']at hx;cases hx
      ·by_cases e:j=i
       ·subst e;rw[hif];simp
       ·rcases hc.names j p (by omega) hp i o (by omega) ho with h3|⟨_,h3⟩
        ·cases hlj:listed.getD j false with
         |false=>simp;omega
         |true=>
          have:=bb h3 (hclosed j p hlj hp)
          rw[hif]at this;cases this
        ·rw[h3 x hd']at hx;cases hx
    have htab_i:∀x,aB all o x=true→aN all V t0 (fun j=>listed.getD j false) m x=look x (aM all V t0 i):=by
     intro x hx
     rw[bu]
     simp only[aN]
     rw[aA m (fun j hj hd'=>hwr x hx j hj hd'),cV m (by omega)]
    have hopnd:∀x,x∈o.op.operands→∀v,ge (aM all V t0 i) x=some v→Rep γ H v (a.eval x):=by
     intro x hx v hv
     cases x with
     |tmp y=>
      have hy:aB all o y=true:=by
       simp only[aB,Bool.or_eq_true]
       exact .inl (.inr (List.any_eq_true.2 ⟨_,Array.mem_toList_iff.2 hx,by simp[hasT]⟩))
      obtain⟨u,hu,hr⟩:=htab y v (by rw[htab_i y hy];exact hv)
      simp only[Act.eval,Array.getD_eq_getD_getElem?,hu,Option.getD_some]
      exact hr
     |const c=>simp only[ge,Option.some.injEq]at hv;subst hv;exact bQ γ H c
     |func f=>simp only[ge,Option.some.injEq]at hv;subst hv;exact .d _ _ (.fn f [] [] rfl (fun j a u h1=>by simp at h1))
     |global g=>simp[ge]at hv
    obtain⟨hos,hdok⟩:=hstep i o him ho
    have hnextG:∀v γ' H' w',mE γ' H' (aN all V t0 (fun j=>listed.getD j false) m) a.tmps→Rep γ' H' (V i) v→
     St X γ' H' [] (au E (fun j=>(listed.setIfInBounds i true).getD j false) σ m) (a.put o.dst v) w'→wpAnyIn (Fr X.ro) 0 X.P .any all Q' fuel (listed.setIfInBounds i true) (a.put o.dst v) w':=by
     intro v γ' H' w' htab' hr sst'
     refine ih _ γ' H' _ w' (by simpa using hs) (fun j hj=>?_) (fun j p hj hp e he hb=>?_) ?_ ?_ sst'
     ·rw[getD_set_ne false (by omega)];exact htail j hj
     ·by_cases e':i=j
      ·subst e'
       rw[ho]at hp;simp only[Option.some.injEq]at hp;subst hp
       exact getD_set_true (h2 e he hb)
      ·rw[getD_set_ne false e']at hj
       exact getD_set_true (hclosed j p hj hp e he hb)
     ·have hf:((List.range m).filter fun j=>!listed.getD j false).length=((List.range m).filter fun j=>!(listed.setIfInBounds i true).getD j false).length+1:=by
       have h5:∀(l:List Nat),l.Nodup→i∈l→(l.filter fun j=>!listed.getD j false).length=(l.filter fun j=>!(listed.setIfInBounds i true).getD j false).length+1:=by
        intro l
        induction l with
        |nil=>intro _ h;cases h
        |cons b l ihl=>
         intro hnd hmem'
         rw[List.nodup_cons]at hnd
         by_cases e:i=b
         ·subst e
          have h6:(listed.setIfInBounds i true).getD i false=true:=by
           rw[Array.getD_eq_getD_getElem?];simp[hil]
          have h7:(l.filter fun j=>!listed.getD j false)=(l.filter fun j=>!(listed.setIfInBounds i true).getD j false):=by
           refine List.filter_congr fun j hj=>?_
           have hne:i≠j:=fun e=>hnd.1 (e▸hj)
           rw[getD_set_ne false hne]
          simp only[List.filter_cons,hif,h6,Bool.not_false,Bool.not_true,if_true,h7,List.length_cons,Bool.false_eq_true,if_false]
         ·have h6:=getD_set_ne (listed:=listed) false e
          have h7:=ihl hnd.2 (by rcases List.mem_cons.1 hmem' with h|h;exact absurd h e;exact h)
          simp only[List.filter_cons,h6]
          split<;>simp only[List.length_cons,h7]
       exact h5 _ List.nodup_range (List.mem_range.2 him)
      omega
     ·
      intro x b hx
      by_cases hxd:o.dst=some x
      ·have hlw:aN all V t0 (fun j=>(listed.setIfInBounds i true).getD j false) m x=some (V i):=by
        have hnx:aB all o x=true:=by simp[aB,hxd]
        simp only[aN]
        have:bB all (fun j=>(listed.setIfInBounds i true).getD j false) x m=bB all (fun j=>decide (j<i+1)) x m:=by
         refine aA m fun j hj hd'=>?_
         by_cases e:i=j
         ·subst e;rw[Array.getD_eq_getD_getElem?];simp[hil]
         ·show(listed.setIfInBounds i true).getD j false=_
          rw[getD_set_ne false e,hwr x hnx j hj hd']
          simp;omega
        rw[this,cV m (by omega)]
        have hda:aY all i=some x:=by simp[aY,ho,hxd]
        simp[bB,hda]
       rw[hlw]at hx
       simp only[Option.some.injEq]at hx
       subst hx
       have hlt:x<a.tmps.size:=by have:=sst.size;rw[hxd]at hdok;simp only[dOk,Nat.blt_eq]at hdok;omega
       exact⟨v,by rw[hxd];simp[Act.put,hlt],hr⟩
      ·have hlw:aN all V t0 (fun j=>(listed.setIfInBounds i true).getD j false) m x=aN all V t0 (fun j=>listed.getD j false) m x:=by
        simp only[aN]
        rw[aA m fun j hj hd'=>?_]
        have e:i≠j:=fun e=>by subst e;simp[aY,ho]at hd';exact hxd hd'
        exact getD_set_ne false e
       rw[hlw]at hx
       obtain⟨u,hu,hr'⟩:=htab' x b hx
       refine⟨u,?_,hr'⟩
       cases hod:o.dst with
       |none=>simpa[Act.put,hod]using hu
       |some d=>
        have hne:d≠x:=fun e=>hxd (by rw[hod,e])
        simp only[Act.put]
        rw[Array.getElem?_setIfInBounds,if_neg hne];exact hu
    have hnext:E i=none→∀v γ' σ' H' w',Mem w H (fun _=>False) γ' H' σ' w'→Rep γ H' (V i) v→wpAnyIn (Fr X.ro) 0 X.P .any all Q' fuel (listed.setIfInBounds i true) (a.put o.dst v) w':=by
     intro hE v γ' σ' H' w' hm' hr
     refine hnextG v γ H' w' (fun x b hx=>let⟨u,hu,r⟩:=htab x b hx;⟨u,hu,r.mono hm'.hle⟩) hr ?_
     have h9:=sst.calm (d:=o.dst) hm' hdok hr
     rw[aI (S':=fun j=>listed.getD j false) m (fun j hj hne=>by
      have e':i≠j:=fun e=>by subst e;exact hne hE
      exact getD_set_ne false e')]
     exact h9.wk (Wk.nil _) (Wk.refl _)
    have hmemσ:Mem X.w0 X.H0 X.B γ H σ w:=sst.mem.wk (fun x e hx=>d9 hx (fun i' y e' hE'=>fun hyx=>by
     have:=(aS (hfr i' y e' hE').1 hx).1
     exact this hyx.symm) m)
    have hguard:∀j b' d b,o.guard=some (j,b')→((all[j]?).bind (·.dst))=some d→look d (aM all V t0 i)=some (.d (.v (.bool b)))→yielded all a.tmps j=some b:=by
     intro j b' d b hg hd' hl
     have hnd:aB all o d=true:=by simp[aB,hg,hd']
     obtain⟨u,hu,hr⟩:=htab d _ (by rw[htab_i d hnd];exact hl)
     have:=aV hr
     subst this
     simp[yielded,hd',hu]
    have hguardU:∀j b' d,o.guard=some (j,b')→((all[j]?).bind (·.dst))=some d→look d (aM all V t0 i)=some (.tup [])→yielded all a.tmps j=none:=by
     intro j b' d hg hd' hl
     have hnd:aB all o d=true:=by simp[aB,hg,hd']
     obtain⟨u,hu,hr⟩:=htab d _ (by rw[htab_i d hnd];exact hl)
     have:=cP hr
     subst this
     simp[yielded,hd',hu,undef]
    unfold wpOpIn
    simp only[ho]
    rcases hos with⟨hE,⟨hg,hq⟩|⟨j,b,d,hg,hd',hl,hq⟩|⟨j,b,b',d,hg,hd',hl,hne,hV⟩|⟨j,b,d,hg,hd',hl,hV⟩⟩|⟨id,en,hg,hnj,hE⟩
    ·have hw:Region.wanted o (yielded all a.tmps)=true:=by simp[Region.wanted,hg]
     rw[if_pos hw]
     exact⟨fun _ _=>trivial,hq γ H a w sst.lam hopnd hmemσ _ _ (hnext hE)⟩
    ·have hw:Region.wanted o (yielded all a.tmps)=true:=by simp[Region.wanted,hg,hguard j b d b hg hd' hl]
     rw[if_pos hw]
     exact⟨fun _ _=>trivial,hq γ H a w sst.lam hopnd hmemσ _ _ (hnext hE)⟩
    ·have hw:Region.wanted o (yielded all a.tmps)=false:=by simp[Region.wanted,hg,hguard j b d b' hg hd' hl,hne]
     simp only[hw,Bool.false_eq_true,if_false]
     exact⟨fun _ _=>trivial,hnext hE undef γ [] H w (sst.mem.refl γ) (by rw[hV];exact cC)⟩
    ·have hw:Region.wanted o (yielded all a.tmps)=false:=by simp[Region.wanted,hg,hguardU j b d hg hd' hl]
     simp only[hw,Bool.false_eq_true,if_false]
     exact⟨fun _ _=>trivial,hnext hE undef γ [] H w (sst.mem.refl γ) (by rw[hV];exact cC)⟩
    ·have hw:Region.wanted o (yielded all a.tmps)=true:=by simp[Region.wanted,hg]
     rw[if_pos hw]
     refine⟨fun _ _=>trivial,?_⟩
     obtain⟨bv,bn,bw,hrun,hmn,hrn⟩:=hnj γ H a w hopnd hmemσ
     rw[show(Fr X.ro).round=X.ro from rfl,hrun,Oper.uponIn_value]
     obtain⟨f2,f3,f4⟩:=hfr i id _ hE
     have hfb:am id [] (au E (fun j=>listed.getD j false) σ m) X.pin=true:=by
      simp only[am,Bool.and_eq_true,List.all_eq_true]at f2 ⊢
      refine⟨⟨fun p hp=>by simp at hp,fun p hp=>?_⟩,f2.2⟩
      rcases fK m hp with h7|⟨j,_,h8,h9⟩
      ·simpa using f2.1.2 p h7
      ·obtain⟨y,f⟩:=p
       obtain⟨g1,g2⟩:=f4 j y f (fun e=>by subst e;rw[hif]at h8;cases h8) h9
       have:Nat.beq id y=false:=by rw[←Bool.not_eq_true,Nat.beq_eq];exact fun h=>g1 h.symm
       simp[this,g2]
     have hnew:=sst.new (d:=o.dst) hmn hfb hdok hrn
     refine hnextG _ (upd γ id ⟨w.heap.size,bn,fun _=>False⟩) H _ ?_ ?_ ?_
     ·intro x b hx
      obtain⟨u,hu',r⟩:=htab x b hx
      refine⟨u,hu',js r ?_⟩
      simp only[aN]at hx
      split at hx
      ·next j hj=>
       simp only[Option.some.injEq]at hx;subst hx
       obtain⟨h7,h8,h9⟩:=fA m j hj
       exact f3 j x h7 (fun e=>by subst e;rw[hif]at h8;cases h8) h9
      ·exact dK f2 hx
     ·exact hrn
     ·refine hnew.wk (Wk.nil _) fun x f hx=>?_
      rw[ae]
      rcases eg m hx with⟨j,hjm,hj,hEj⟩|hx
      ·by_cases e':j=i
       ·subst e'
        rw[hE]at hEj
        simp only[Option.some.injEq,Prod.mk.injEq]at hEj
        rw[if_pos hEj.1.symm,hEj.2]
       ·have hne:=(f4 j x f e' hEj).1
        rw[if_neg hne]
        refine cL (fun i1 j1 y e1 e2 h1' h2'=>Classical.byContradiction fun hne'=>(((hfr i1 y e1 h1').2.2 j1 y e2 (fun h=>hne' h.symm) h2').1 rfl)) m hjm ?_ hEj
        rw[getD_set_ne false (fun h=>e' h.symm)]at hj;exact hj
      ·have hne:=(aS f2 hx).1
       rw[if_neg hne]
       exact d9 hx (fun i' y e' hE'=>fun hyx=>by
        have:=(aS (hfr i' y e' hE').1 hx).1
        exact this hyx.symm) m
def zU (all:Array Oper)(m1:Nat):Bool:=
 (List.range all.size).all fun j=>match all[j]? with
  |none=>true
  |some o=>o.after.all (fun e=>!Region.binds .any e||Nat.blt e.on j)&&(Nat.ble j m1||(List.range m1).all fun i=>xF all 24 j i)&&
   (!Nat.ble j m1||(List.range j).all fun i=>match all[i]? with
    |none=>true
    |some p=>cb o i||((match p.dst with|some x=>!aB all o x|none=>true)&&(match o.dst with|some x=>!aB all p x|none=>true)))
theorem zT {all:Array Oper}{m1:Nat}(h:zU all m1=true):CalmC all m1:=by
 have at':∀j o,all[j]?=some o→_:=fun j o ho=>by
  have hj:j<all.size:=(Array.getElem?_eq_some_iff.1 ho).1
  have h1:=(List.all_eq_true.1 h) j (List.mem_range.2 hj)
  simp only[ho,Bool.and_eq_true]at h1
  exact h1
 refine⟨fun j o ho e he hb=>?_,fun j o ho hm i hi=>?_,fun j o hjm ho i p hi hp=>?_⟩
 ·obtain⟨⟨h2,h3⟩,h4⟩:=at' j o ho
  have:=(Array.all_eq_true_iff_forall_mem.1 h2) e he
  simp only[hb,Bool.not_true,Bool.false_or,Nat.blt_eq]at this
  exact this
 ·obtain⟨⟨h2,h3⟩,h4⟩:=at' j o ho
  rcases Bool.or_eq_true_iff.1 h3 with h5|h5
  ·simp only[Nat.ble_eq]at h5;omega
  ·exact ka _ _ _ (List.all_eq_true.1 h5 i (List.mem_range.2 hi))
 ·obtain⟨⟨h2,h3⟩,h4⟩:=at' j o ho
  rcases Bool.or_eq_true_iff.1 h4 with h5|h5
  ·have:Nat.ble j m1=true:=by simpa using hjm
   rw[this]at h5;cases h5
  ·have h5:=List.all_eq_true.1 h5 i (List.mem_range.2 hi)
   simp only[hp]at h5
   rcases Bool.or_eq_true_iff.1 h5 with h6|h6
   ·exact .inl h6
   ·refine .inr ?_
    simp only[Bool.and_eq_true]at h6
    refine⟨fun x hx=>?_,fun x hx=>?_⟩
    ·have:=h6.1;simp only[hx]at this;simpa using this
    ·have:=h6.2;simp only[hx]at this;simpa using this
def DB (X:Cx)(ops:Array Oper)(m1:Nat)(σ:Sg)(t:T)(K:T→Prop):Prop:=
 ∃o V,ops[m1]?=some o∧o.guard=none∧QJ X o t σ V∧dOk o.dst X.N=true∧V.open=true∧K (putT o.dst V t)
theorem Ac {X:Cx}{id:Nat}{ops:Array Oper}{t:T}{σ:Sg}{RB RA:T→Sg→Prop}{Q':Exit→Act→World→Prop}(m1:Nat)(hm:X.P.follows .mixedOrders=true)(hc:CalmC ops m1)(hle:m1+1≤ops.size)
 (hendB:∀t σ,RB t σ→∀γ H a w listed,St X γ H t σ a w→listed.size=ops.size→(∀j,j<ops.size→listed.getD j false=decide (j<m1))→wpAnyIn (Fr X.ro) 0 X.P .any ops Q' (ops.size-m1) listed a w)
 (hend:∀t σ,RA t σ→∀γ H a w listed,St X γ H t σ a w→listed.size=ops.size→(∀j,j<ops.size→listed.getD j false=decide (j<m1+1))→wpAnyIn (Fr X.ro) 0 X.P .any ops Q' (ops.size-(m1+1)) listed a w)
 (h:CB X ops σ (fun t' σ'=>RB t' σ'∧DB X ops m1 σ t' fun t''=>RA t'' σ') (ops.toList.take m1) t []):∀γ H a w,St X γ H t σ a w→(Code.region id ops true).wpIn (Fr X.ro) 0 X.P Q' a w:=by
 intro γ H a w s
 refine wpIn_region_any hm ?_
 have hlen:(ops.toList.take m1).length=m1:=by simp;omega
 have tb:=CB.table (ops.toList.take m1) 0 t [] (fun j hj=>by rw[hlen]at hj;rw[Nat.zero_add,List.getElem?_take,if_pos hj];simp) h
 unfold l5 at tb
 obtain⟨V,E,h1,⟨t',h2,h3,o1,V1,g1,g2,g3,g4,g5,g6⟩,ha,hb,hc',_⟩:=tb
 simp only[hlen,Nat.zero_add]at h1 h2 h3 ha hb hc' g6
 rw[bl]at h2
 have hst:∀i,i≤m1→aM ops (fun i=>if i<m1 then V i else V1) t i=aM ops V t i:=fun i=>by
  induction i with
  |zero=>intro _;rfl
  |succ i ih=>intro hi;simp only[aM];rw[ih (by omega),if_pos (by omega)]
 have s':St X γ H t σ a {w with drawn:=w.drawn+1}:=⟨s.lam,s.round,s.defers,s.size,s.pinned,s.tmp,s.mem.drew⟩
 have hall:∀j,(Array.replicate ops.size false).getD j false=false:=fun j=>by
  rw[Array.getD_eq_getD_getElem?,Array.getElem?_replicate];split<;>rfl
 have hbB:au (fun i=>if i<m1 then E i else none) (fun _=>true) σ m1=bd E 0 [] m1++σ:=by
  rw[iw]
  congr 1
  exact cn m1 fun i _ hi=>if_pos (by omega)
 have hd1:aY ops m1=o1.dst:=by simp[aY,g1]
 refine xD (m:=m1+1) (m1:=m1) (t0:=t) (σ:=σ) rfl hc hle (V:=fun i=>if i<m1 then V i else V1) (E:=fun i=>if i<m1 then E i else none) (by simp) (fun γ H a w lst st hls hlst=>?_) (fun i o hi ho=>?_) (fun i id e hE=>?_) (fun γ H a w lst st hls hlst=>?_) ops.size _ γ H a _ (by simp) (fun j _=>hall j) (fun i o hi=>by rw[hall i]at hi;cases hi) ?_ ?_ ?_
 ·rw[hbB,hst m1 (Nat.le_refl _)]at st
  exact hendB _ _ h3 γ H a w lst (st.wk h2 (Wk.refl _)) hls hlst
 ·rw[hst i (by omega)]
  by_cases him:i<m1
  ·have:=h1 i o him ho
   rw[bl]at this
   simp only[if_pos him];exact this
  ·have e:i=m1:=by omega
   subst e
   rw[g1]at ho;cases ho
   simp only[if_neg him]
   exact⟨.inl ⟨rfl,.inl ⟨g2,g3.wk h2 (Wk.refl _)⟩⟩,g4⟩
 ·have him:i<m1:=by
   refine Classical.byContradiction fun hge=>?_
   rw[if_neg hge]at hE;cases hE
  simp only[if_pos him]at hE
  have g2:=ha i id e him hE
  refine⟨g2,fun j x hj hne hx=>?_,fun j id' e' hne hE'=>?_⟩
  ·by_cases hj':j<m1
   ·simp only[if_pos hj'];exact hb i j x id e him hj' hne hE hx
   ·simp only[if_neg hj'];exact gS g5
  ·by_cases hj:j<m1
   ·rw[if_pos hj]at hE'
    exact hc' i j id e id' e' him hj hne hE hE'
   ·rw[if_neg hj]at hE';cases hE'
 ·have hbe:au (fun i=>if i<m1 then E i else none) (fun _=>true) σ (m1+1)=bd E 0 [] m1++σ:=by
   rw[←hbB]
   simp only[au,Nat.lt_irrefl,if_false]
  have hse:aM ops (fun i=>if i<m1 then V i else V1) t (m1+1)=putT o1.dst V1 (aM ops V t m1):=by
   simp only[aM,Nat.lt_irrefl,if_false]
   rw[hst m1 (Nat.le_refl _),hd1]
  rw[hbe,hse]at st
  exact hend _ _ g6 γ H a w lst (st.wk h2.put (Wk.refl _)) hls hlst
 ·have:((List.range (m1+1)).filter fun j=>!(Array.replicate ops.size false).getD j false)=List.range (m1+1):=List.filter_eq_self.2 fun j _=>by rw[hall j];rfl
  rw[this,List.length_range];omega
 ·intro x b hx
  have:bB ops (fun j=>(Array.replicate ops.size false).getD j false) x (m1+1)=none:=by
   have h0:∀k,bB ops (fun _=>false) x k=none:=fun k=>by
    induction k with
    |zero=>rfl
    |succ k ih=>simp[bB,ih]
   rw[aA (S':=fun _=>false) (m1+1) (fun j _ _=>hall j)];exact h0 _
  simp only[aN,this]at hx
  exact s.tmp x b hx
 ·have:au (fun i=>if i<m1 then E i else none) (fun j=>(Array.replicate ops.size false).getD j false) σ (m1+1)=σ:=by
   have h0:∀k,au (fun i=>if i<m1 then E i else none) (fun _=>false) σ k=σ:=fun k=>by
    induction k with
    |zero=>rfl
    |succ k ih=>simp only[au,ih];split<;>simp
   rw[aI (S':=fun _=>false) (m1+1) (fun j _ _=>hall j)];exact h0 _
  rw[this];exact s'.wk (Wk.nil _) (Wk.refl _)
theorem CB.imp {X:Cx}{all:Array Oper}{σ:Sg}{Q Q':T→Sg→Prop}(hQ:∀t σ,Q t σ→Q' t σ):∀(al:List Oper)(t:T)(bs:Sg),CB X all σ Q al t bs→CB X all σ Q' al t bs
 |[],t,bs,⟨t',h1,h2⟩=>⟨t',h1,hQ _ _ h2⟩
 |o::al,t,bs,h=>by
  rcases h with⟨V,h1,h2,h3,h4⟩|⟨id,V,e,hd,hg,hn,hN,hf,hb,hv,h4⟩
  ·exact .inl ⟨V,h1,h2,h3,CB.imp hQ al _ _ h4⟩
  ·exact .inr ⟨id,V,e,hd,hg,hn,hN,hf,hb,hv,CB.imp hQ al _ _ h4⟩
def zt (X:Cx)(ops:Array Oper)(m1:Nat)(σ:Sg)(t:T)(K:T→Prop):Prop:=match ops[m1]? with
 |some o=>match o.guard with
  |none=>qw X o t σ (fun V=>match dOk o.dst X.N&&V.open with|true=>K (putT o.dst V t)|false=>False) False
  |some _=>False
 |none=>False
theorem sH {X:Cx}{ops:Array Oper}{m1:Nat}{σ:Sg}{t:T}{K:T→Prop}(h:zt X ops m1 σ t K):DB X ops m1 σ t K:=by
 unfold zt at h
 split at h
 ·next o ho=>
  split at h
  ·next hg=>
   rcases iN h with⟨V,hq,hk⟩|h
   ·split at hk
    ·next hb=>
     simp only[Bool.and_eq_true]at hb
     exact⟨o,V,ho,hg,hq,hb.1,hb.2,hk⟩
    ·exact hk.elim
   ·exact h.elim
  ·exact h.elim
 ·exact h.elim
theorem qi {X:Cx}{id:Nat}{ops:Array Oper}{t:T}{σ:Sg}{Q:T→Sg→Prop}(m1:Nat)(hm:X.P.follows .mixedOrders=true)(hc:(zU ops m1&&Nat.ble (m1+1) ops.size)=true)
 (h:vB X ops σ (fun t' σ'=>vO X ops Q (ops.size-m1) (fT m1 (dc (ops.size-m1))) t' σ'∧zt X ops m1 σ t' fun t''=>vO X ops Q (ops.size-(m1+1)) (fT (m1+1) (dc (ops.size-(m1+1)))) t'' σ') (ops.toList.take m1) t []):RegP X id ops t σ Q:=by
 intro Q' hQ
 simp only[Bool.and_eq_true,Nat.ble_eq]at hc
 have key:∀m,m≤ops.size→∀t σ,vO X ops Q (ops.size-m) (fT m (dc (ops.size-m))) t σ→∀γ H a w listed,St X γ H t σ a w→listed.size=ops.size→(∀j,j<ops.size→listed.getD j false=decide (j<m))→wpAnyIn (Fr X.ro) 0 X.P .any ops (pn X Q') (ops.size-m) listed a w:=fun m hle t σ h3 γ H a w lst hst hls hlst=>by
  have e:lst=(fT m (dc (ops.size-m))).toArray:=by
   rw[iJ,fi]
   apply Array.ext
   ·simp[hls];omega
   ·intro j h1 h2
    have hj:=hlst j (by omega)
    rw[Array.getD_eq_getD_getElem?,Array.getElem?_eq_getElem h1,Option.getD_some]at hj
    rw[hj,List.getElem_toArray,List.getElem_append]
    split
    ·next h3=>simp at h3;simp[h3]
    ·next h3=>simp at h3;simp;omega
  rw[e]
  exact gz (Q:=Q) (Q':=pn X Q') (fun γ H t σ a w s q=>⟨γ,H,t,σ,s,hQ t σ q⟩) (ops.size-m) _ t σ h3 γ H a w hst
 refine Ac m1 hm (zT hc.1) hc.2 (key m1 (by omega)) (key (m1+1) hc.2) ?_
 exact CB.imp (fun t σ h=>⟨h.1,sH h.2⟩) _ _ _ (ft _ _ _ h)
end Go.Gv
end
section
namespace Go.Gv
open Go.RowKit
theorem Dj (f:Nat→Option AV):∀n,∃t:T,∀x,look x t=if x<n then f x else none
 |0=>⟨[],fun x=>by rw[if_neg (by omega)];rfl⟩
 |n+1=>by
  obtain⟨t,ht⟩:=Dj f n
  cases hf:f n with
  |none=>
   refine⟨t,fun x=>?_⟩
   rw[ht]
   by_cases e:x=n
   ·subst e;rw[if_neg (by omega),if_pos (by omega),hf]
   ·by_cases h:x<n
    ·rw[if_pos h,if_pos (by omega)]
    ·rw[if_neg h,if_neg (by omega)]
  |some v=>
   refine⟨(n,v)::t,fun x=>?_⟩
   rw[ae]
   by_cases e:x=n
   ·subst e;rw[if_pos rfl,if_pos (by omega),hf]
   ·rw[if_neg e,ht]
    by_cases h:x<n
    ·rw[if_pos h,if_pos (by omega)]
    ·rw[if_neg h,if_neg (by omega)]
def StoreJ (X:Cx)(o:Oper)(t:T)(id:Nat)(e f:Ent):Prop:=
 o.guard=none∧o.dst=none∧∀(t':T)(σ':Sg),(∀x,x∈o.op.operands→∀v,ge t x=some v→ge t' x=some v)→look id σ'=some e→OpJ X o t' σ' (fun t2 σ2=>t2=t'∧σ2=(id,f)::σ')
def Dx (X:Cx)(all:Array Oper)(o:Oper)(t:T)(σ:Sg)(V:AV)(F:Option (Nat×Ent×Ent)):Prop:=
 (F=none∧OStep X all o t σ V)∨(∃id e f,F=some (id,e,f)∧StoreJ X o t id e f)
def CS (X:Cx)(all:Array Oper)(σ0 σ:Sg)(Q:T→Sg→Prop):List Oper→T→Sg→Prop
 |[],t,ss=>∃t',Wk t' t∧Q t' ss
 |o::al,t,ss=>
  (∃V,OStep X all o t σ V∧dOk o.dst X.N=true∧CS X all σ0 σ Q al (putT o.dst V t) ss)∨
  (∃id e f,StoreJ X o t id e f∧look id σ0=some e∧look id σ=none∧look id ss=none∧CS X all σ0 σ Q al t ((id,f)::ss))
def iF:Option (Nat×Ent×Ent)→Sg→Sg
 |some (i,_,f),ss=>(i,f)::ss
 |none,ss=>ss
def eQ (F:Nat→Option (Nat×Ent×Ent))(k:Nat)(ss:Sg):Nat→Sg
 |0=>ss
 |j+1=>iF (F (k+j)) (eQ F k ss j)
theorem iK {F F':Nat→Option (Nat×Ent×Ent)}{k:Nat}{ss:Sg}:∀j,(∀i,k≤i→i<k+j→F i=F' i)→eQ F k ss j=eQ F' k ss j
 |0,_=>rfl
 |j+1,h=>by
  simp only[eQ]
  rw[h (k+j) (by omega) (by omega),iK j (fun i h1 h2=>h i h1 (by omega))]
theorem jT {F:Nat→Option (Nat×Ent×Ent)}{k:Nat}{ss:Sg}:∀j,eQ F k ss (j+1)=eQ F (k+1) (iF (F k) ss) j
 |0=>rfl
 |j+1=>by
  rw[eQ,jT j,eQ]
  rw[show k+(j+1)=k+1+j from by omega]
def Gd (X:Cx)(all:Array Oper)(σ0 σ:Sg)(Q:T→Sg→Prop)(al:List Oper)(k:Nat)(t:T)(ss:Sg):Prop:=
 ∃(V:Nat→AV)(F:Nat→Option (Nat×Ent×Ent)),(∀j o,j<al.length→all[k+j]?=some o→Dx X all o (aC all V t k j) σ (V (k+j)) (F (k+j))∧dOk o.dst X.N=true)∧
  (∃t',Wk t' (aC all V t k al.length)∧Q t' (eQ F k ss al.length))∧
  (∀j x e f,j<al.length→F (k+j)=some (x,e,f)→look x σ0=some e∧look x σ=none∧look x ss=none)∧
  (∀i j x e f e' f',i<al.length→j<al.length→F (k+i)=some (x,e,f)→F (k+j)=some (x,e',f')→i=j)
theorem CS.table {X:Cx}{all:Array Oper}{σ0 σ:Sg}{Q:T→Sg→Prop}:∀(al:List Oper)(k:Nat)(t:T)(ss:Sg),(∀j,j<al.length→all[k+j]?=al[j]?)→CS X all σ0 σ Q al t ss→Gd X all σ0 σ Q al k t ss
 |[],k,t,ss,_,h=>⟨fun _=>.junk,fun _=>none,fun j o hj=>by simp at hj,h,fun j x e f hj=>by simp at hj,fun i j x e f e' f' hi=>by simp at hi⟩
 |p::al,k,t,ss,ha,h=>by
  have hk:all[k]?=some p:=by simpa using ha 0 (by simp)
  have hdk:aY all k=p.dst:=by simp[aY,hk]
  have ha':∀j,j<al.length→all[k+1+j]?=al[j]?:=fun j hj=>by have:=ha (j+1) (by simp;omega);rw[show k+1+j=k+(j+1)from by omega];simpa using this
  have hne:∀j,k+(j+1)≠k:=fun j=>by omega
  have hadd:∀j,k+(j+1)=k+1+j:=fun j=>by omega
  have key:∀(V0:AV)(F0:Option (Nat×Ent×Ent)),Dx X all p t σ V0 F0→dOk p.dst X.N=true→CS X all σ0 σ Q al (putT p.dst V0 t) (iF F0 ss)→
   (∀x e f,F0=some (x,e,f)→look x σ0=some e∧look x σ=none∧look x ss=none)→Gd X all σ0 σ Q (p::al) k t ss:=by
   intro V0 F0 hB hdok h4 hF0
   obtain⟨V',F',i1,⟨t',i2,i3⟩,ia,ib⟩:=CS.table al (k+1) _ _ ha' h4
   have hV:∀j,aC all (fun i=>if i=k then V0 else V' i) t k (j+1)=aC all V' (putT p.dst V0 t) (k+1) j:=fun j=>by
    rw[ct,hdk]
    simp only[if_true]
    exact cg j fun i h7 h8=>if_neg (by omega)
   have hFF:∀j,eQ (fun i=>if i=k then F0 else F' i) k ss (j+1)=eQ F' (k+1) (iF F0 ss) j:=fun j=>by
    rw[jT]
    simp only[if_true]
    exact iK (F:=fun i=>if i=k then F0 else F' i) (F':=F') j fun i h7 h8=>if_neg (by omega)
   refine⟨fun i=>if i=k then V0 else V' i,fun i=>if i=k then F0 else F' i,?_,⟨t',by rw[List.length_cons,hV];exact i2,by rw[List.length_cons,hFF];exact i3⟩,?_,?_⟩
   ·intro j o hj ho
    cases j with
    |zero=>
     rw[Nat.add_zero,hk]at ho
     simp only[Option.some.injEq]at ho
     subst ho
     simp only[Nat.add_zero,if_true,aC]
     exact⟨hB,hdok⟩
    |succ j=>
     rw[hV]
     simp only[if_neg (hne j)]
     have:=i1 j o (by simpa using hj) (by rw[←hadd j];exact ho)
     rw[hadd j];exact this
   ·intro j x e f hj hF
    cases j with
    |zero=>
     simp only[Nat.add_zero,if_true]at hF
     exact hF0 x e f hF
    |succ j=>
     simp only[if_neg (hne j)]at hF;rw[hadd j]at hF
     obtain⟨g1,g2,g3⟩:=ia j x e f (by simpa using hj) hF
     refine⟨g1,g2,?_⟩
     cases F0 with
     |none=>exact g3
     |some q=>
      obtain⟨y,e0,f0⟩:=q
      simp only[iF]at g3
      rw[ae]at g3
      split at g3
      ·cases g3
      ·exact g3
   ·have cross:∀j x e f e' f',j<al.length→F0=some (x,e,f)→F' (k+1+j)=some (x,e',f')→False:=fun j x e f e' f' hj h1 h2=>by
     obtain⟨_,_,g3⟩:=ia j x e' f' hj h2
     rw[h1]at g3
     simp only[iF]at g3
     rw[ae,if_pos rfl]at g3;cases g3
    intro i j x e f e' f' hi hj h1 h2
    cases i with
    |zero=>
     simp only[Nat.add_zero,if_true]at h1
     cases j with
     |zero=>rfl
     |succ j=>
      simp only[if_neg (hne j)]at h2;rw[hadd j]at h2
      exact(cross j x e f e' f' (by simpa using hj) h1 h2).elim
    |succ i=>
     simp only[if_neg (hne i)]at h1;rw[hadd i]at h1
     cases j with
     |zero=>
      simp only[Nat.add_zero,if_true]at h2
      exact(cross i x e' f' e f (by simpa using hi) h2 h1).elim
     |succ j=>
      simp only[if_neg (hne j)]at h2;rw[hadd j]at h2
      rw[ib i j x e f e' f' (by simpa using hi) (by simpa using hj) h1 h2]
  rcases h with⟨V0,h1,h2,h4⟩|⟨id0,e0,f0,hs,g1,g2,g3,h4⟩
  ·exact key V0 none (.inl ⟨rfl,h1⟩) h2 h4 (fun x e f h=>by cases h)
  ·have hd0:=hs.2.1
   exact key .junk (some (id0,e0,f0)) (.inr ⟨id0,e0,f0,rfl,hs⟩) (by rw[hd0];rfl) (by rw[hd0];exact h4) (fun x e f h=>by cases h;exact⟨g1,g2,g3⟩)
def inN (i:Nat):List Nat→Bool
 |[]=>false
 |j::r=>match Nat.beq i j with|true=>true|false=>inN i r
def dJ (ks:List Nat):Sg→Sg
 |[]=>[]
 |(i,e)::σ=>match inN i ks with|true=>dJ ks σ|false=>(i,e)::dJ ks σ
theorem iW (ks:List Nat):∀σ:Sg,Wk (dJ ks σ) σ∧∀i,inN i ks=true→look i (dJ ks σ)=none
 |[]=>⟨Wk.nil _,fun _ _=>rfl⟩
 |(j,e)::σ=>by
  obtain⟨h1,h2⟩:=iW ks σ
  have go:∀i a,inN i ks=false→look i (dJ ks σ)=some a→look i σ=some a:=fun i a _ h=>h1 i a h
  refine⟨fun i a hi=>?_,fun i hi=>?_⟩
  ·have hn:inN i ks=false:=by
    cases h:inN i ks with
    |false=>rfl
    |true=>
     have:look i (dJ ks ((j,e)::σ))=none:=by
      simp only[dJ]
      split
      ·exact h2 i h
      ·next hj=>
       rw[ae,if_neg (fun e=>by subst e;rw[h]at hj;cases hj)]
       exact h2 i h
     rw[this]at hi;cases hi
   simp only[dJ]at hi
   split at hi
   ·next hj=>
    rw[ae,if_neg (fun e=>by subst e;rw[hn]at hj;cases hj)]
    exact h1 i a hi
   ·rw[ae]at hi ⊢
    split
    ·next e=>rw[if_pos e]at hi;exact hi
    ·next e=>rw[if_neg e]at hi;exact h1 i a hi
  ·simp only[dJ]
   split
   ·exact h2 i hi
   ·next hj=>
    rw[ae,if_neg (fun e=>by subst e;rw[hi]at hj;cases hj)]
    exact h2 i hi
theorem StoreJ.wk {X:Cx}{o:Oper}{t t':T}{id:Nat}{e f:Ent}(hw:Wk t' t)(h:StoreJ X o t' id e f):StoreJ X o t id e f:=
 ⟨h.1,h.2.1,fun t2 σ2 hx hl=>h.2.2 t2 σ2 (fun x hx2 v hv=>hx x hx2 v (by
  cases x with
  |tmp i=>exact hw i v hv
  |const c=>exact hv
  |func f=>exact hv
  |global g=>exact hv)) hl⟩
theorem CS.wk {X:Cx}{all:Array Oper}{σ0 σ:Sg}{Q:T→Sg→Prop}:∀(al:List Oper)(t t':T)(ss:Sg),Wk t' t→CS X all σ0 σ Q al t' ss→CS X all σ0 σ Q al t ss
 |[],t,t',ss,hw,⟨t'',h1,h2⟩=>⟨t'',h1.trans hw,h2⟩
 |o::al,t,t',ss,hw,h=>by
  rcases h with⟨V,h1,h2,h4⟩|⟨id,e,f,hs,g1,g2,g3,h4⟩
  ·exact .inl ⟨V,h1.wk hw,h2,CS.wk al _ _ ss hw.put h4⟩
  ·exact .inr ⟨id,e,f,hs.wk hw,g1,g2,g3,CS.wk al _ _ _ hw h4⟩
end Go.Gv
end
section
namespace Go.Gv
open Go.RowKit
def dj (F:Nat→Option (Nat×Ent×Ent))(k:Nat):Option (Nat×Ent):=match F k with
 |some (i,_,f)=>some (i,f)
 |none=>none
theorem fg {F:Nat→Option (Nat×Ent×Ent)}{k x:Nat}{f:Ent}(h:dj F k=some (x,f)):∃e,F k=some (x,e,f):=by
 unfold dj at h
 split at h
 ·next i e f' hF=>cases h;exact⟨e,hF⟩
 ·cases h
theorem gX {E:Nat→Option (Nat×Ent)}{S:Nat→Bool}{σ:Sg}{x m:Nat}(hn:∀i y e,i<m→S i=true→E i=some (y,e)→y≠x):∀k,k≤m→look x (au E S σ k)=look x σ
 |0,_=>rfl
 |k+1,hk=>by
  have ih:=gX (σ:=σ) hn k (by omega)
  simp only[au]
  cases hE:E k with
  |none=>exact ih
  |some q=>
   simp only
   split
   ·next hs=>
    obtain⟨y,f⟩:=q
    rw[ae,if_neg (fun h=>hn k y f (by omega) hs hE h.symm)]
    exact ih
   ·exact ih
theorem sZ {E:Nat→Option (Nat×Ent)}{S:Nat→Bool}{σ:Sg}(hd:∀i j x e f,E i=some (x,e)→E j=some (x,f)→i=j){i x:Nat}{f:Ent}(hE:E i=some (x,f)){y:Nat}:
 ∀k,i<k→look y (au E (fun j=>if j=i then true else S j) σ k)=if y=x then some f else look y (au E S σ k):=by
 have same:∀k,k≤i→au E (fun j=>if j=i then true else S j) σ k=au E S σ k:=fun k hk=>aI k fun j hj _=>if_neg (by omega)
 intro k
 induction k with
 |zero=>intro h;omega
 |succ k ih=>
  intro h
  by_cases hik:i=k
  ·subst hik
   simp only[au,hE,if_true,ae]
   rw[same i (Nat.le_refl _)]
   by_cases hy:y=x
   ·rw[if_pos hy,if_pos hy]
   ·rw[if_neg hy,if_neg hy]
    split
    ·rw[ae,if_neg hy]
    ·rfl
  ·have ih:=ih (by omega)
   simp only[au]
   cases hF:E k with
   |none=>exact ih
   |some q=>
    obtain⟨z,f'⟩:=q
    have hz:z≠x:=fun h=>hik (by subst h;exact hd i k _ _ _ hE hF)
    have hki:(if k=i then true else S k)=S k:=if_neg (fun h=>hik h.symm)
    simp only[hki]
    split
    ·rw[ae,ae]
     by_cases hy:y=z
     ·rw[if_pos hy,if_pos hy,if_neg (fun h=>hz (hy.symm.trans h))]
     ·rw[if_neg hy,if_neg hy];exact ih
    ·exact ih
def Ah (X:Cx)(all:Array Oper)(o:Oper)(t:T)(σ:Sg)(V:AV)(E:Option (Nat×Ent))(F:Option (Nat×Ent×Ent)):Prop:=
 (E=none∧F=none∧OStep X all o t σ V)∨(∃id e,E=some (id,e)∧F=none∧o.guard=none∧BirthJ X o t σ id V e)∨(∃id e f,E=none∧F=some (id,e,f)∧StoreJ X o t id e f)
theorem xC {X:Cx}{all:Array Oper}{m:Nat}{t0:T}{σ:Sg}{σq:Nat→Sg}{V:Nat→AV}{E:Nat→Option (Nat×Ent)}{F:Nat→Option (Nat×Ent×Ent)}{Q':Exit→Act→World→Prop}(hc:CalmR all m)(hm:m≤all.size)
 (hσ:∀i,Wk (σq i) σ)(hstep:∀i o,i<m→all[i]?=some o→Ah X all o (aM all V t0 i) (σq i) (V i) (E i) (F i)∧dOk o.dst X.N=true)
 (hEm:∀i,m≤i→E i=none)(hFm:∀i,m≤i→F i=none)
 (hfr:∀i id e,E i=some (id,e)→am id t0 σ X.pin=true∧(∀j x,j<m→j≠i→aY all j=some x→aP id (V j)=false)∧(∀j id' e',j≠i→E j=some (id',e')→id'≠id∧aJ id e'=false)∧
  ∀j x e' f,F j=some (x,e',f)→(∀o,all[j]?=some o→cb o i=true)∨(x≠id∧aJ id f=false))
 (hds:∀i j x e f e' f',F i=some (x,e,f)→F j=some (x,e',f')→i=j)
 (hout:∀i x e f,F i=some (x,e,f)→(∀j,look x (σq j)=none∨∀o,all[i]?=some o→cb o j=true)∧((look x σ=some e∧∀j id e',E j=some (id,e')→id≠x)∨∃b,b<m∧E b=some (x,e)∧∀o,all[i]?=some o→cb o b=true))
 (hend:∀γ H a w listed,St X γ H (aM all V t0 m) (au (dj F) (fun _=>true) (au E (fun _=>true) σ m) m) a w→listed.size=all.size→(∀j,j<all.size→listed.getD j false=decide (j<m))→wpAnyIn (Fr X.ro) 0 X.P .any all Q' (all.size-m) listed a w):
 ∀(fuel:Nat)(listed:Array Bool)(γ:Ids)(H:HF)(a:Act)(w:World),listed.size=all.size→
  (∀j,m≤j→listed.getD j false=false)→(∀i o,listed.getD i false=true→all[i]?=some o→∀e,e∈o.after→Region.binds .any e=true→listed.getD e.on false=true)→
  ((List.range m).filter fun j=>!listed.getD j false).length+(all.size-m)=fuel→
  mE γ H (aN all V t0 (fun j=>listed.getD j false) m) a.tmps→St X γ H [] (au (dj F) (fun j=>listed.getD j false) (au E (fun j=>listed.getD j false) σ m) m) a w→
  wpAnyIn (Fr X.ro) 0 X.P .any all Q' fuel listed a w:=by
 intro fuel
 induction fuel with
 |zero=>
  intro listed γ H a w hs htail hclosed hcount htab sst
  have hall:∀j,j<m→listed.getD j false=true:=fun j hj=>by
   have h0:((List.range m).filter fun j=>!listed.getD j false)=[]:=List.length_eq_zero_iff.1 (by omega)
   have:=List.filter_eq_nil_iff.1 h0 j (List.mem_range.2 hj)
   simpa using this
  have hmn:m=all.size:=by omega
  have hst:St X γ H (aM all V t0 m) (au (dj F) (fun _=>true) (au E (fun _=>true) σ m) m) a w:=dm (by have h9:=sst;rw[aI (E:=dj F) (S':=fun _=>true) m (fun j hj _=>hall j hj),aI (E:=E) (S':=fun _=>true) m (fun j hj _=>hall j hj)]at h9;exact h9) (fun i b hi=>htab i b (by
   rw[bu]at hi
   rw[←hi]
   simp only[aN]
   rw[aA m (fun j hj _=>hall j hj)]))
  have:=hend γ H a w listed hst hs (fun j hj=>by rw[hall j (by omega)];simp;omega)
  rw[show all.size-m=0 from by omega]at this;exact this
 |succ fuel ih=>
  intro listed γ H a w hs htail hclosed hcount htab sst
  by_cases hall:∀j,j<m→listed.getD j false=true
  ·
   have hst:St X γ H (aM all V t0 m) (au (dj F) (fun _=>true) (au E (fun _=>true) σ m) m) a w:=dm (by have h9:=sst;rw[aI (E:=dj F) (S':=fun _=>true) m (fun j hj _=>hall j hj),aI (E:=E) (S':=fun _=>true) m (fun j hj _=>hall j hj)]at h9;exact h9) (fun i b hi=>htab i b (by
    rw[bu]at hi
    rw[←hi]
    simp only[aN]
    rw[aA m (fun j hj _=>hall j hj)]))
   have h0:((List.range m).filter fun j=>!listed.getD j false)=[]:=List.filter_eq_nil_iff.2 fun j hj=>by simp only[hall j (List.mem_range.1 hj)];simp
   rw[h0]at hcount
   simp only[List.length_nil,Nat.zero_add]at hcount
   have:=hend γ H a w listed hst hs (fun j hj=>by
    by_cases hj':j<m
    ·rw[hall j hj'];simp[hj']
    ·rw[htail j (by omega)];simp;omega)
   rw[hcount]at this
   exact this
  ·refine⟨fun hn=>?_,fun i hi=>?_⟩
   ·
    exfalso
    have hex:∃j,j<m∧listed.getD j false=false:=by
     refine Classical.byContradiction fun hno=>hall fun j hj=>?_
     cases hx:listed.getD j false with
     |true=>rfl
     |false=>exact absurd ⟨j,hj,hx⟩ hno
    have hmin:∃j,j<m∧listed.getD j false=false∧∀i,i<j→listed.getD i false=true:=by
     obtain⟨j,hj⟩:=hex
     induction j using Nat.strongRecOn with
     |_ j ihj=>
      by_cases hlow:∀i,i<j→listed.getD i false=true
      ·exact⟨j,hj.1,hj.2,hlow⟩
      ·have:∃i,i<j∧listed.getD i false=false:=by
        refine Classical.byContradiction fun hno=>hlow fun i hi=>?_
        cases hx:listed.getD i false with
        |true=>rfl
        |false=>exact absurd ⟨i,hi,hx⟩ hno
       obtain⟨i,hi,hx⟩:=this
       exact ihj i hi ⟨by omega,hx⟩
    obtain⟨j,hj,hjl,hlow⟩:=hmin
    have hjn:j<all.size:=by omega
    have hmem':j∈Region.ready .any all listed:=by
     rw[mem_ready]
     refine⟨?_,all[j],by simp[hjn],fun e he hb=>hlow _ (hc.back j all[j] (by simp[hjn]) e he hb)⟩
     rw[Array.getD_eq_getD_getElem?]at hjl ⊢
     rw[Array.getElem?_eq_getElem (by omega)]at hjl ⊢
     simpa using hjl
    rw[hn]at hmem';cases hmem'
   ·obtain⟨h1,o,ho,h2⟩:=dz hi
    obtain⟨hil,hif⟩:=jA h1
    have hin:i<all.size:=(Array.getElem?_eq_some_iff.1 ho).1
    have him:i<m:=by
     refine Classical.byContradiction fun hge=>hall fun j hj=>?_
     exact iy hclosed (hc.tail i o ho (by omega) j hj) ho h2
    have hwr:∀x,aB all o x=true→∀j,j<m→aY all j=some x→listed.getD j false=decide (j<i):=by
     intro x hx j hj hd'
     cases hp:all[j]? with
     |none=>simp[aY,hp]at hd'
     |some p=>
      simp only[aY,hp,Option.bind_some]at hd'
      by_cases hji:j<i
      ·rcases hc.names i o (by omega) ho j p hji hp with h3|⟨h3,_⟩
       ·rw[bb h3 h2];simp[hji]
       ·rw[h3 x hd']at hx;cases hx
      ·by_cases e:j=i
       ·subst e;rw[hif];simp
       ·rcases hc.names j p (by omega) hp i o (by omega) ho with h3|⟨_,h3⟩
        ·cases hlj:listed.getD j false with
         |false=>simp;omega
         |true=>
          have:=bb h3 (hclosed j p hlj hp)
          rw[hif]at this;cases this
        ·rw[h3 x hd']at hx;cases hx
    have htab_i:∀x,aB all o x=true→aN all V t0 (fun j=>listed.getD j false) m x=look x (aM all V t0 i):=by
     intro x hx
     rw[bu]
     simp only[aN]
     rw[aA m (fun j hj hd'=>hwr x hx j hj hd'),cV m (by omega)]
    have hopnd:∀x,x∈o.op.operands→∀v,ge (aM all V t0 i) x=some v→Rep γ H v (a.eval x):=by
     intro x hx v hv
     cases x with
     |tmp y=>
      have hy:aB all o y=true:=by
       simp only[aB,Bool.or_eq_true]
       exact .inl (.inr (List.any_eq_true.2 ⟨_,Array.mem_toList_iff.2 hx,by simp[hasT]⟩))
      obtain⟨u,hu,hr⟩:=htab y v (by rw[htab_i y hy];exact hv)
      simp only[Act.eval,Array.getD_eq_getD_getElem?,hu,Option.getD_some]
      exact hr
     |const c=>simp only[ge,Option.some.injEq]at hv;subst hv;exact bQ γ H c
     |func f=>simp only[ge,Option.some.injEq]at hv;subst hv;exact .d _ _ (.fn f [] [] rfl (fun j a u h1=>by simp at h1))
     |global g=>simp[ge]at hv
    obtain⟨hos,hdok⟩:=hstep i o him ho
    have hleft:((List.range m).filter fun j=>!(listed.setIfInBounds i true).getD j false).length+(all.size-m)=fuel:=by
     have hf:((List.range m).filter fun j=>!listed.getD j false).length=((List.range m).filter fun j=>!(listed.setIfInBounds i true).getD j false).length+1:=by
      have h5:∀(l:List Nat),l.Nodup→i∈l→(l.filter fun j=>!listed.getD j false).length=(l.filter fun j=>!(listed.setIfInBounds i true).getD j false).length+1:=by
       intro l
       induction l with
       |nil=>intro _ h;cases h
       |cons b l ihl=>
        intro hnd hmem'
        rw[List.nodup_cons]at hnd
        by_cases e:i=b
        ·subst e
         have h6:(listed.setIfInBounds i true).getD i false=true:=by
          rw[Array.getD_eq_getD_getElem?];simp[hil]
         have h7:(l.filter fun j=>!listed.getD j false)=(l.filter fun j=>!(listed.setIfInBounds i true).getD j false):=by
          refine List.filter_congr fun j hj=>?_
          have hne:i≠j:=fun e=>hnd.1 (e▸hj)
          rw[getD_set_ne false hne]
         simp only[List.filter_cons,hif,h6,Bool.not_false,Bool.not_true,if_true,h7,List.length_cons,Bool.false_eq_true,if_false]
        ·have h6:=getD_set_ne (listed:=listed) false e
         have h7:=ihl hnd.2 (by rcases List.mem_cons.1 hmem' with h|h;exact absurd h e;exact h)
         simp only[List.filter_cons,h6]
         split<;>simp only[List.length_cons,h7]
      exact h5 _ List.nodup_range (List.mem_range.2 him)
     omega
    have hclosed':∀j p,(listed.setIfInBounds i true).getD j false=true→all[j]?=some p→∀e,e∈p.after→Region.binds .any e=true→(listed.setIfInBounds i true).getD e.on false=true:=fun j p hj hp e he hb=>by
     by_cases e':i=j
     ·subst e'
      rw[ho]at hp;simp only[Option.some.injEq]at hp;subst hp
      exact getD_set_true (h2 e he hb)
     ·rw[getD_set_ne false e']at hj
      exact getD_set_true (hclosed j p hj hp e he hb)
    have htail':∀j,m≤j→(listed.setIfInBounds i true).getD j false=false:=fun j hj=>by
     rw[getD_set_ne false (by omega)];exact htail j hj
    have hset:(fun j=>(listed.setIfInBounds i true).getD j false)=fun j=>if j=i then true else listed.getD j false:=funext fun j=>by
     by_cases e:j=i
     ·subst e;rw[if_pos rfl,Array.getD_eq_getD_getElem?];simp[hil]
     ·rw[if_neg e,getD_set_ne false (fun h=>e h.symm)]
    have hnextG:∀v γ' H' w',mE γ' H' (aN all V t0 (fun j=>listed.getD j false) m) a.tmps→Rep γ' H' (V i) v→
     St X γ' H' [] (au (dj F) (fun j=>(listed.setIfInBounds i true).getD j false) (au E (fun j=>(listed.setIfInBounds i true).getD j false) σ m) m) (a.put o.dst v) w'→wpAnyIn (Fr X.ro) 0 X.P .any all Q' fuel (listed.setIfInBounds i true) (a.put o.dst v) w':=by
     intro v γ' H' w' htab' hr sst'
     refine ih _ γ' H' _ w' (by simpa using hs) htail' hclosed' hleft ?_ sst'
     ·
      intro x b hx
      by_cases hxd:o.dst=some x
      ·have hlw:aN all V t0 (fun j=>(listed.setIfInBounds i true).getD j false) m x=some (V i):=by
        have hnx:aB all o x=true:=by simp[aB,hxd]
        simp only[aN]
        have:bB all (fun j=>(listed.setIfInBounds i true).getD j false) x m=bB all (fun j=>decide (j<i+1)) x m:=by
         refine aA m fun j hj hd'=>?_
         by_cases e:i=j
         ·subst e;rw[Array.getD_eq_getD_getElem?];simp[hil]
         ·show(listed.setIfInBounds i true).getD j false=_
          rw[getD_set_ne false e,hwr x hnx j hj hd']
          simp;omega
        rw[this,cV m (by omega)]
        have hda:aY all i=some x:=by simp[aY,ho,hxd]
        simp[bB,hda]
       rw[hlw]at hx
       simp only[Option.some.injEq]at hx
       subst hx
       have hlt:x<a.tmps.size:=by have:=sst.size;rw[hxd]at hdok;simp only[dOk,Nat.blt_eq]at hdok;omega
       exact⟨v,by rw[hxd];simp[Act.put,hlt],hr⟩
      ·have hlw:aN all V t0 (fun j=>(listed.setIfInBounds i true).getD j false) m x=aN all V t0 (fun j=>listed.getD j false) m x:=by
        simp only[aN]
        rw[aA m fun j hj hd'=>?_]
        have e:i≠j:=fun e=>by subst e;simp[aY,ho]at hd';exact hxd hd'
        exact getD_set_ne false e
       rw[hlw]at hx
       obtain⟨u,hu,hr'⟩:=htab' x b hx
       refine⟨u,?_,hr'⟩
       cases hod:o.dst with
       |none=>simpa[Act.put,hod]using hu
       |some d=>
        have hne:d≠x:=fun e=>hxd (by rw[hod,e])
        simp only[Act.put]
        rw[Array.getElem?_setIfInBounds,if_neg hne];exact hu
    have hnext:E i=none→F i=none→∀v γ' σ' H' w',Mem w H (fun _=>False) γ' H' σ' w'→Rep γ H' (V i) v→wpAnyIn (Fr X.ro) 0 X.P .any all Q' fuel (listed.setIfInBounds i true) (a.put o.dst v) w':=by
     intro hE0 hE v γ' σ' H' w' hm' hr
     have sst':St X γ H' [] (au (dj F) (fun j=>(listed.setIfInBounds i true).getD j false) (au E (fun j=>(listed.setIfInBounds i true).getD j false) σ m) m) (a.put o.dst v) w':=by
      have h9:=sst.calm (d:=o.dst) hm' hdok hr
      rw[aI (E:=dj F) (S':=fun j=>listed.getD j false) m (fun j hj hne=>by
       have e':i≠j:=fun e=>by subst e;exact hne (by simp[dj,hE])
       exact getD_set_ne false e'),aI (E:=E) (S':=fun j=>listed.getD j false) m (fun j hj hne=>by
       have e':i≠j:=fun e=>by subst e;exact hne hE0
       exact getD_set_ne false e')]
      exact h9.wk (Wk.nil _) (Wk.refl _)
     exact hnextG v γ H' w' (fun x b hx=>let⟨u,hu,r⟩:=htab x b hx;⟨u,hu,r.mono hm'.hle⟩) hr sst'
    have hbE:∀x e,look x σ=some e→look x (au E (fun j=>listed.getD j false) σ m)=some e:=fun x e hx=>d9 hx (fun i' y e' hE'=>fun hyx=>by
     have:=(aS (hfr i' y e' hE').1 hx).1
     exact this hyx.symm) m
    have hmemσ:Mem X.w0 X.H0 X.B γ H (σq i) w:=sst.mem.wk (fun x e hx=>by
     rw[gX (fun j y f hj hl hF hyx=>by
      subst hyx
      obtain⟨e1,h1⟩:=fg hF
      rcases(hout j _ _ _ h1).1 i with h|h
      ·rw[h]at hx;cases hx
      ·have hjo:all[j]?=some all[j]:=by simp[show j<all.size by omega]
       have:=bb (h _ hjo) (hclosed j _ hl hjo)
       rw[hif]at this;cases this) m (Nat.le_refl _)]
     exact hbE x e (hσ i x e hx))
    have hguard:∀j b' d b,o.guard=some (j,b')→((all[j]?).bind (·.dst))=some d→look d (aM all V t0 i)=some (.d (.v (.bool b)))→yielded all a.tmps j=some b:=by
     intro j b' d b hg hd' hl
     have hnd:aB all o d=true:=by simp[aB,hg,hd']
     obtain⟨u,hu,hr⟩:=htab d _ (by rw[htab_i d hnd];exact hl)
     have:=aV hr
     subst this
     simp[yielded,hd',hu]
    have hguardU:∀j b' d,o.guard=some (j,b')→((all[j]?).bind (·.dst))=some d→look d (aM all V t0 i)=some (.tup [])→yielded all a.tmps j=none:=by
     intro j b' d hg hd' hl
     have hnd:aB all o d=true:=by simp[aB,hg,hd']
     obtain⟨u,hu,hr⟩:=htab d _ (by rw[htab_i d hnd];exact hl)
     have:=cP hr
     subst this
     simp[yielded,hd',hu,undef]
    unfold wpOpIn
    simp only[ho]
    rcases hos with⟨hE0,hE,⟨hg,hq⟩|⟨j,b,d,hg,hd',hl,hq⟩|⟨j,b,b',d,hg,hd',hl,hne,hV⟩|⟨j,b,d,hg,hd',hl,hV⟩⟩|⟨id,en,hE0,hE,hg,hnj⟩|⟨id,en,en',hE0,hE,hst⟩
    ·have hw:Region.wanted o (yielded all a.tmps)=true:=by simp[Region.wanted,hg]
     rw[if_pos hw]
     exact⟨fun _ _=>trivial,hq γ H a w sst.lam hopnd hmemσ _ _ (hnext hE0 hE)⟩
    ·have hw:Region.wanted o (yielded all a.tmps)=true:=by simp[Region.wanted,hg,hguard j b d b hg hd' hl]
     rw[if_pos hw]
     exact⟨fun _ _=>trivial,hq γ H a w sst.lam hopnd hmemσ _ _ (hnext hE0 hE)⟩
    ·have hw:Region.wanted o (yielded all a.tmps)=false:=by simp[Region.wanted,hg,hguard j b d b' hg hd' hl,hne]
     simp only[hw,Bool.false_eq_true,if_false]
     exact⟨fun _ _=>trivial,hnext hE0 hE undef γ [] H w (sst.mem.refl γ) (by rw[hV];exact cC)⟩
    ·have hw:Region.wanted o (yielded all a.tmps)=false:=by simp[Region.wanted,hg,hguardU j b d hg hd' hl]
     simp only[hw,Bool.false_eq_true,if_false]
     exact⟨fun _ _=>trivial,hnext hE0 hE undef γ [] H w (sst.mem.refl γ) (by rw[hV];exact cC)⟩
    ·have hw:Region.wanted o (yielded all a.tmps)=true:=by simp[Region.wanted,hg]
     rw[if_pos hw]
     refine⟨fun _ _=>trivial,?_⟩
     obtain⟨bv,bn,bw,hrun,hmn,hrn⟩:=hnj γ H a w hopnd hmemσ
     rw[show(Fr X.ro).round=X.ro from rfl,hrun,Oper.uponIn_value]
     obtain⟨f2,f3,f4,f5⟩:=hfr i id _ hE0
     have fS:∀j x f,listed.getD j false=true→dj F j=some (x,f)→x≠id∧aJ id f=false:=fun j x f hj hF=>by
      obtain⟨e1,h1⟩:=fg hF
      rcases f5 j x e1 f h1 with h6|h6
      ·have hjm:j<m:=Nat.lt_of_not_le fun hle=>by rw[hFm j hle]at h1;cases h1
       have hjo:all[j]?=some all[j]:=by simp[show j<all.size by omega]
       have:=bb (h6 _ hjo) (hclosed j _ hj hjo)
       rw[hif]at this;cases this
      ·exact h6
     have hfb:am id [] (au (dj F) (fun j=>listed.getD j false) (au E (fun j=>listed.getD j false) σ m) m) X.pin=true:=by
      simp only[am,Bool.and_eq_true,List.all_eq_true]at f2 ⊢
      refine⟨⟨fun p hp=>by simp at hp,fun p hp=>?_⟩,f2.2⟩
      have mk:p.1≠id∧aJ id p.2=false→(!Nat.beq id p.1&&!aJ id p.2)=true:=fun⟨h1,h2⟩=>by
       have:Nat.beq id p.1=false:=by rw[←Bool.not_eq_true,Nat.beq_eq];exact fun h=>h1 h.symm
       simp[this,h2]
      rcases fK m hp with h7|⟨j,_,h8,h9⟩
      ·rcases fK m h7 with h7|⟨j,_,h8,h9⟩
       ·simpa using f2.1.2 p h7
       ·obtain⟨y,f⟩:=p
        have:=mk (f4 j y f (fun e=>by subst e;rw[hif]at h8;cases h8) h9)
        simpa using this
      ·obtain⟨y,f⟩:=p
       have:=mk (fS j y f h8 h9)
       simpa using this
     have hnew:=sst.new (d:=o.dst) hmn hfb hdok hrn
     refine hnextG _ (upd γ id ⟨w.heap.size,bn,fun _=>False⟩) H _ ?_ ?_ ?_
     ·intro x b hx
      obtain⟨u,hu',r⟩:=htab x b hx
      refine⟨u,hu',js r ?_⟩
      simp only[aN]at hx
      split at hx
      ·next j hj=>
       simp only[Option.some.injEq]at hx;subst hx
       obtain⟨h7,h8,h9⟩:=fA m j hj
       exact f3 j x h7 (fun e=>by subst e;rw[hif]at h8;cases h8) h9
      ·exact dK f2 hx
     ·exact hrn
     ·refine hnew.wk (Wk.nil _) fun x f hx=>?_
      rw[aI (E:=dj F) (S':=fun j=>listed.getD j false) m (fun j hj hne=>by
       have e':i≠j:=fun e=>by subst e;exact hne (by simp[dj,hE])
       exact getD_set_ne false e')]at hx
      have hdF:∀i j x e f,dj F i=some (x,e)→dj F j=some (x,f)→i=j:=fun i j x e f h1 h2=>by
       obtain⟨e1,h1⟩:=fg h1
       obtain⟨e2,h2⟩:=fg h2
       exact hds _ _ _ _ _ _ _ h1 h2
      rw[ae]
      by_cases hex:∃j f1,j<m∧listed.getD j false=true∧dj F j=some (x,f1)
      ·obtain⟨j,f1,h1,h2,h3⟩:=hex
       rw[cL hdF m h1 h2 h3]at hx
       cases hx
       rw[if_neg (fS j x f h2 h3).1]
       exact cL hdF m h1 h2 h3
      ·have hno:∀j y f,j<m→listed.getD j false=true→dj F j=some (y,f)→y≠x:=fun j y f h1 h2 h3 e=>by subst e;exact hex ⟨j,f,h1,h2,h3⟩
       rw[gX hno m (Nat.le_refl _)]at hx
       have key:(if x=id then some en else look x (au E (fun j=>listed.getD j false) σ m))=some f:=by
        rcases eg m hx with⟨j,hjm,hj,hEj⟩|hx
        ·by_cases e':j=i
         ·subst e'
          rw[hE0]at hEj
          simp only[Option.some.injEq,Prod.mk.injEq]at hEj
          rw[if_pos hEj.1.symm,hEj.2]
         ·have hne:=(f4 j x f e' hEj).1
          rw[if_neg hne]
          refine cL (fun i1 j1 y e1 e2 h1' h2'=>Classical.byContradiction fun hne'=>(((hfr i1 y e1 h1').2.2.1 j1 y e2 (fun h=>hne' h.symm) h2').1 rfl)) m hjm ?_ hEj
          rw[getD_set_ne false (fun h=>e' h.symm)]at hj;exact hj
        ·have hne:=(aS f2 hx).1
         rw[if_neg hne]
         exact hbE x f hx
       by_cases hxi:x=id
       ·rw[if_pos hxi]at key ⊢;exact key
       ·rw[if_neg hxi]at key ⊢
        rw[gX hno m (Nat.le_refl _)];exact key
    ·obtain⟨hg,hd0,hj⟩:=hst
     have hw:Region.wanted o (yielded all a.tmps)=true:=by simp[Region.wanted,hg]
     rw[if_pos hw]
     refine⟨fun _ _=>trivial,?_⟩
     obtain⟨tc,htc⟩:∃tc:T,∀x,look x tc=aN all V t0 (fun j=>listed.getD j false) m x:=by
      obtain⟨tc,h5⟩:=Dj (fun x=>aN all V t0 (fun j=>listed.getD j false) m x) a.tmps.size
      refine⟨tc,fun x=>?_⟩
      rw[h5]
      split
      ·rfl
      ·next hx=>
       cases hv:aN all V t0 (fun j=>listed.getD j false) m x with
       |none=>rfl
       |some b=>
        obtain⟨u,hu,_⟩:=htab x b hv
        exact absurd (Array.getElem?_eq_some_iff.1 hu).1 hx
     have hsc:St X γ H tc (au (dj F) (fun j=>listed.getD j false) (au E (fun j=>listed.getD j false) σ m) m) a w:=dm sst (fun x b hx=>htab x b (by rw[←htc];exact hx))
     have hFi:dj F i=some (id,en'):=by simp[dj,hE]
     have hdF:∀i j x e f,dj F i=some (x,e)→dj F j=some (x,f)→i=j:=fun i j x e f h1 h2=>by
      obtain⟨e1,h1⟩:=fg h1
      obtain⟨e2,h2⟩:=fg h2
      exact hds _ _ _ _ _ _ _ h1 h2
     have hlk:look id (au (dj F) (fun j=>listed.getD j false) (au E (fun j=>listed.getD j false) σ m) m)=some en:=by
      rw[gX (fun j y f hj hl hF e=>by
       subst e
       have:=hdF _ _ _ _ _ hFi hF
       subst this
       rw[hif]at hl;cases hl) m (Nat.le_refl _)]
      rcases(hout i id en en' hE).2 with⟨h1,_⟩|⟨b,hb,h1,h3⟩
      ·exact hbE id en h1
      ·exact cL (fun i1 j1 y e1 e2 h1' h2'=>Classical.byContradiction fun hne'=>(((hfr i1 y e1 h1').2.2.1 j1 y e2 (fun h=>hne' h.symm) h2').1 rfl)) m hb (bb (h3 o ho) h2) h1
     have key:=hj tc (au (dj F) (fun j=>listed.getD j false) (au E (fun j=>listed.getD j false) σ m) m) (fun x hx v hv=>by
      cases x with
      |tmp y=>
       have hy:aB all o y=true:=by
        simp only[aB,Bool.or_eq_true]
        exact .inl (.inr (List.any_eq_true.2 ⟨_,Array.mem_toList_iff.2 hx,by simp[hasT]⟩))
       show look y tc=some v
       rw[htc,htab_i y hy];exact hv
      |const c=>exact hv
      |func f=>exact hv
      |global g=>exact hv) hlk
     refine key γ H a w hsc _ _ ?_
     rintro γ' H' t' σ' a' w' s' ⟨rfl,rfl⟩
     refine ih _ γ' H' a' w' (by simpa using hs) htail' hclosed' hleft (fun x b hx=>?_) ?_
     ·refine s'.tmp x b ?_
      rw[htc,←hx]
      simp only[aN]
      rw[aA m fun j hj hd'=>?_]
      have e:i≠j:=fun e=>by subst e;simp[aY,ho,hd0]at hd'
      exact(getD_set_ne false e).symm
     ·have hb0:au E (fun j=>(listed.setIfInBounds i true).getD j false) σ m=au E (fun j=>listed.getD j false) σ m:=aI m (fun j hj hne=>by
       have e':i≠j:=fun e=>by subst e;exact hne hE0
       exact getD_set_ne false e')
      rw[hb0,hset]
      refine s'.wk (Wk.nil _) fun x e hx=>?_
      rw[sZ hdF hFi m him]at hx
      rw[ae];exact hx
abbrev Bs:=List (Nat×Nat×Ent)
def bsS (bs:Bs):Sg:=bs.map fun p=>p.2
def CT (X:Cx)(all:Array Oper)(σ0:Sg)(σ:Nat→Sg)(Q:T→Sg→Prop):List Oper→Nat→T→Bs→Sg→Prop
 |[],_,t,bs,ss=>∃t',Wk t' t∧Q t' (ss++bsS bs)
 |o::al,k,t,bs,ss=>
  (∃V,OStep X all o t (σ k) V∧dOk o.dst X.N=true∧(∀p,p∈bs→aP p.2.1 V=false)∧CT X all σ0 σ Q al (k+1) (putT o.dst V t) bs ss)∨
  (∃id V e,o.dst=some id∧o.guard=none∧BirthJ X o t (σ k) id V e∧dOk (some id) X.N=true∧am id t (ss++(bsS bs++σ0)) X.pin=true∧
   (∀p,p∈bs→aJ p.2.1 e=false∧aP p.2.1 V=false)∧CT X all σ0 σ Q al (k+1) ((id,V)::t) ((k,id,e)::bs) ss)∨
  (∃x e f,StoreJ X o t x e f∧(∀i,look x (σ i)=none∨cb o i=true)∧look x ss=none∧((look x σ0=some e∧∀p,p∈bs→p.2.1≠x)∨(∃b,(b,x,e)∈bs∧cb o b=true))∧
   (∀p,p∈bs→cb o p.1=true∨(x≠p.2.1∧aJ p.2.1 f=false))∧CT X all σ0 σ Q al (k+1) t bs ((x,f)::ss))
structure TTab (X:Cx)(all:Array Oper)(σ0:Sg)(σ:Nat→Sg)(Q:T→Sg→Prop)(n k:Nat)(t:T)(bs:Bs)(ss:Sg)(V:Nat→AV)(E:Nat→Option (Nat×Ent))(F:Nat→Option (Nat×Ent×Ent)):Prop where
 step:∀j o,j<n→all[k+j]?=some o→Ah X all o (aC all V t k j) (σ (k+j)) (V (k+j)) (E (k+j)) (F (k+j))∧dOk o.dst X.N=true
 fin:∃t',Wk t' (aC all V t k n)∧Q t' (eQ F k ss n++bd E k (bsS bs) n)
 fresh:∀j id e,j<n→E (k+j)=some (id,e)→am id t (ss++(bsS bs++σ0)) X.pin=true
 ev:∀j j' x id e,j<n→j'<n→j'≠j→E (k+j)=some (id,e)→aY all (k+j')=some x→aP id (V (k+j'))=false
 ee:∀j j' id e id' e',j<n→j'<n→j'≠j→E (k+j)=some (id,e)→E (k+j')=some (id',e')→id'≠id∧aJ id e'=false
 ef:∀j j' id e x e' f,j<n→j'<n→E (k+j)=some (id,e)→F (k+j')=some (x,e',f)→(∀o,all[k+j']?=some o→cb o (k+j)=true)∨(x≠id∧aJ id f=false)
 old:∀j x e f,j<n→F (k+j)=some (x,e,f)→(∀i,look x (σ i)=none∨∀o,all[k+j]?=some o→cb o i=true)∧look x ss=none∧
  ((look x σ0=some e∧(∀p,p∈bs→p.2.1≠x)∧∀j' id e',j'<n→E (k+j')=some (id,e')→id≠x)∨(∃b,(b,x,e)∈bs∧∀o,all[k+j]?=some o→cb o b=true)∨(∃j',j'<n∧E (k+j')=some (x,e)∧∀o,all[k+j]?=some o→cb o (k+j')=true))
 ff:∀i j x e f e' f',i<n→j<n→F (k+i)=some (x,e,f)→F (k+j)=some (x,e',f')→i=j
 bv:∀p,p∈bs→∀j,j<n→(∀x,aY all (k+j)=some x→aP p.2.1 (V (k+j))=false)∧(∀id e,E (k+j)=some (id,e)→id≠p.2.1∧aJ p.2.1 e=false)∧
  ∀x e f,F (k+j)=some (x,e,f)→(∀o,all[k+j]?=some o→cb o p.1=true)∨(x≠p.2.1∧aJ p.2.1 f=false)
def mz (k:Nat):Option (Nat×Ent)→Bs→Bs
 |some q,bs=>(k,q)::bs
 |none,bs=>bs
theorem oU (k:Nat)(E0:Option (Nat×Ent))(bs:Bs):bsS (mz k E0 bs)=k9 E0 (bsS bs):=by cases E0<;>rfl
theorem jC {id:Nat}{t:T}{a b:Sg}{pin:List Nat}(h:am id t (a++b) pin=true):am id t a pin=true∧am id t b pin=true:=by
 simp only[am,Bool.and_eq_true,List.all_append]at h ⊢
 exact⟨⟨⟨h.1.1,h.1.2.1⟩,h.2⟩,⟨⟨h.1.1,h.1.2.2⟩,h.2⟩⟩
theorem jB {id:Nat}{t:T}{σ:Sg}{pin:List Nat}(h:am id t σ pin=true){p:Nat×Ent}(hp:p∈σ):p.1≠id∧aJ id p.2=false:=by
 simp only[am,Bool.and_eq_true,List.all_eq_true]at h
 have:=h.1.2 p hp
 simp only[Bool.and_eq_true,Bool.not_eq_true']at this
 exact⟨fun e=>by rw[e]at this;simp at this,this.2⟩
theorem uu {id:Nat}{t:T}{σ σ':Sg}{pin:List Nat}(h:am id t σ pin=true)(hs:∀p,p∈σ'→p∈σ):am id t σ' pin=true:=by
 simp only[am,Bool.and_eq_true,List.all_eq_true]at h ⊢
 exact⟨⟨h.1.1,fun p hp=>h.1.2 p (hs p hp)⟩,h.2⟩
theorem CT.table {X:Cx}{all:Array Oper}{σ0:Sg}{σ:Nat→Sg}{Q:T→Sg→Prop}:∀(al:List Oper)(k:Nat)(t:T)(bs:Bs)(ss:Sg),(∀j,j<al.length→all[k+j]?=al[j]?)→CT X all σ0 σ Q al k t bs ss→∃V E F,TTab X all σ0 σ Q al.length k t bs ss V E F
 |[],k,t,bs,ss,_,h=>⟨fun _=>.junk,fun _=>none,fun _=>none,⟨fun j o hj=>by simp at hj,h,fun j id e hj=>by simp at hj,fun j j' x id e hj=>by simp at hj,fun j j' id e id' e' hj=>by simp at hj,fun j j' id e x e' f hj=>by simp at hj,fun j x e f hj=>by simp at hj,fun i j x e f e' f' hi=>by simp at hi,fun p _ j hj=>by simp at hj⟩⟩
 |p::al,k,t,bs,ss,ha,h=>by
  have hk:all[k]?=some p:=by simpa using ha 0 (by simp)
  have hdk:aY all k=p.dst:=by simp[aY,hk]
  have ha':∀j,j<al.length→all[k+1+j]?=al[j]?:=fun j hj=>by have:=ha (j+1) (by simp;omega);rw[show k+1+j=k+(j+1)from by omega];simpa using this
  have hne:∀j,k+(j+1)≠k:=fun j=>by omega
  have hadd:∀j,k+(j+1)=k+1+j:=fun j=>by omega
  have key:∀(V0:AV)(E0:Option (Nat×Ent))(F0:Option (Nat×Ent×Ent)),Ah X all p t (σ k) V0 E0 F0→dOk p.dst X.N=true→CT X all σ0 σ Q al (k+1) (putT p.dst V0 t) (mz k E0 bs) (iF F0 ss)→
   (∀id e,E0=some (id,e)→am id t (ss++(bsS bs++σ0)) X.pin=true)→
   (∀x e f,F0=some (x,e,f)→E0=none∧(∀i,look x (σ i)=none∨cb p i=true)∧look x ss=none∧((look x σ0=some e∧∀q,q∈bs→q.2.1≠x)∨(∃b,(b,x,e)∈bs∧cb p b=true)))→
   (∀q,q∈bs→(∀x,p.dst=some x→aP q.2.1 V0=false)∧(∀id e,E0=some (id,e)→id≠q.2.1∧aJ q.2.1 e=false)∧∀x e f,F0=some (x,e,f)→cb p q.1=true∨(x≠q.2.1∧aJ q.2.1 f=false))→
   ∃V E F,TTab X all σ0 σ Q (p::al).length k t bs ss V E F:=by
   intro V0 E0 F0 hB hdok h4 hE0 hF0 hbs
   obtain⟨V',E',F',tb⟩:=CT.table al (k+1) _ _ _ ha' h4
   obtain⟨i1,⟨t',i2,i3⟩,i4,i5,i6,i7,i8,i9,i10⟩:=tb
   have hV:∀j,aC all (fun i=>if i=k then V0 else V' i) t k (j+1)=aC all V' (putT p.dst V0 t) (k+1) j:=fun j=>by
    rw[ct,hdk]
    simp only[if_true]
    exact cg j fun i h7 h8=>if_neg (by omega)
   have hFF:∀j,eQ (fun i=>if i=k then F0 else F' i) k ss (j+1)=eQ F' (k+1) (iF F0 ss) j:=fun j=>by
    rw[jT]
    simp only[if_true]
    exact iK (F:=fun i=>if i=k then F0 else F' i) (F':=F') j fun i h7 h8=>if_neg (by omega)
   have hEE:∀j,bd (fun i=>if i=k then E0 else E' i) k (bsS bs) (j+1)=bd E' (k+1) (bsS (mz k E0 bs)) j:=fun j=>by
    rw[gw,oU]
    simp only[if_true]
    exact cn (E:=fun i=>if i=k then E0 else E' i) (E':=E') j fun i h7 h8=>if_neg (by omega)
   have memE:∀q,E0=some q→(k,q)∈mz k E0 bs:=fun q e=>by rw[e];simp[mz]
   have memB:∀q,q∈bs→q∈mz k E0 bs:=fun q hq=>by cases E0<;>simp[mz,hq]
   have freshL:∀id,am id (putT p.dst V0 t) (iF F0 ss++(bsS (mz k E0 bs)++σ0)) X.pin=true→am id t (ss++(bsS bs++σ0)) X.pin=true∧(∀x,p.dst=some x→aP id V0=false)∧(∀id' e',E0=some (id',e')→id'≠id∧aJ id e'=false)∧∀x e f,F0=some (x,e,f)→x≠id∧aJ id f=false:=by
    intro id hf
    obtain⟨g1,g2⟩:=oo hf
    refine⟨uu g1 fun q hq=>?_,g2,fun id' e' h=>?_,fun x e f h=>?_⟩
    ·rcases List.mem_append.1 hq with h|h
     ·exact List.mem_append.2 (.inl (by cases F0 with|none=>exact h|some r=>exact List.mem_cons.2 (.inr h)))
     ·rcases List.mem_append.1 h with h|h
      ·refine List.mem_append.2 (.inr (List.mem_append.2 (.inl ?_)))
       rw[oU];cases E0 with|none=>exact h|some r=>exact List.mem_cons.2 (.inr h)
      ·exact List.mem_append.2 (.inr (List.mem_append.2 (.inr h)))
    ·exact jB g1 (p:=(id',e')) (List.mem_append.2 (.inr (List.mem_append.2 (.inl (by rw[oU,h];simp[k9])))))
    ·exact jB g1 (p:=(x,f)) (List.mem_append.2 (.inl (by rw[h];simp[iF])))
   refine⟨fun i=>if i=k then V0 else V' i,fun i=>if i=k then E0 else E' i,fun i=>if i=k then F0 else F' i,?_,⟨t',by rw[List.length_cons,hV];exact i2,by rw[List.length_cons,hFF,hEE];exact i3⟩,?_,?_,?_,?_,?_,?_,?_⟩
   ·intro j o hj ho
    cases j with
    |zero=>
     rw[Nat.add_zero,hk]at ho
     simp only[Option.some.injEq]at ho
     subst ho
     simp only[Nat.add_zero,if_true,aC]
     exact⟨hB,hdok⟩
    |succ j=>
     rw[hV]
     simp only[if_neg (hne j)]
     have:=i1 j o (by simpa using hj) (by rw[←hadd j];exact ho)
     rw[hadd j];exact this
   ·intro j id e hj hE
    cases j with
    |zero=>simp only[Nat.add_zero,if_true]at hE;exact hE0 id e hE
    |succ j=>
     simp only[if_neg (hne j)]at hE;rw[hadd j]at hE
     exact(freshL id (i4 j id e (by simpa using hj) hE)).1
   ·intro j j' x id e hj hj' hjj hE hx
    cases j with
    |zero=>
     simp only[Nat.add_zero,if_true]at hE
     cases j' with
     |zero=>exact absurd rfl hjj
     |succ j'=>
      simp only[if_neg (hne j')]at hx ⊢;rw[hadd j']at hx ⊢
      exact(i10 _ (memE _ hE) j' (by simpa using hj')).1 x hx
    |succ j=>
     simp only[if_neg (hne j)]at hE;rw[hadd j]at hE
     cases j' with
     |zero=>
      simp only[Nat.add_zero,if_true]at hx ⊢
      exact(freshL id (i4 j id e (by simpa using hj) hE)).2.1 x (by rw[←hdk];exact hx)
     |succ j'=>
      simp only[if_neg (hne j')]at hx ⊢;rw[hadd j']at hx ⊢
      exact i5 j j' x id e (by simpa using hj) (by simpa using hj') (by omega) hE hx
   ·intro j j' id e id' e' hj hj' hjj hE hE'
    cases j with
    |zero=>
     simp only[Nat.add_zero,if_true]at hE
     cases j' with
     |zero=>exact absurd rfl hjj
     |succ j'=>
      simp only[if_neg (hne j')]at hE';rw[hadd j']at hE'
      exact(i10 _ (memE _ hE) j' (by simpa using hj')).2.1 id' e' hE'
    |succ j=>
     simp only[if_neg (hne j)]at hE;rw[hadd j]at hE
     cases j' with
     |zero=>
      simp only[Nat.add_zero,if_true]at hE'
      exact(freshL id (i4 j id e (by simpa using hj) hE)).2.2.1 id' e' hE'
     |succ j'=>
      simp only[if_neg (hne j')]at hE';rw[hadd j']at hE'
      exact i6 j j' id e id' e' (by simpa using hj) (by simpa using hj') (by omega) hE hE'
   ·intro j j' id e x e' f hj hj' hE hF
    cases j with
    |zero=>
     simp only[Nat.add_zero,if_true]at hE
     cases j' with
     |zero=>
      simp only[Nat.add_zero,if_true]at hF
      have:=(hF0 x e' f hF).1
      rw[hE]at this;cases this
     |succ j'=>
      simp only[if_neg (hne j')]at hF;rw[hadd j']at hF
      have:=(i10 _ (memE _ hE) j' (by simpa using hj')).2.2 x e' f hF
      rw[hadd j'];exact this
    |succ j=>
     simp only[if_neg (hne j)]at hE;rw[hadd j]at hE
     cases j' with
     |zero=>
      simp only[Nat.add_zero,if_true]at hF
      exact .inr ((freshL id (i4 j id e (by simpa using hj) hE)).2.2.2 x e' f hF)
     |succ j'=>
      simp only[if_neg (hne j')]at hF;rw[hadd j']at hF
      rw[hadd j,hadd j']
      exact i7 j j' id e x e' f (by simpa using hj) (by simpa using hj') hE hF
   ·intro j x e f hj hF
    cases j with
    |zero=>
     simp only[Nat.add_zero,if_true]at hF
     obtain⟨g0,g1,g2,g3⟩:=hF0 x e f hF
     refine⟨fun i=>(g1 i).imp id fun h o ho=>(by rw[Nat.add_zero,hk]at ho;cases ho;exact h),g2,?_⟩
     rcases g3 with⟨g4,g5⟩|⟨b,g4,g5⟩
     ·refine .inl ⟨g4,g5,fun j' id e' hj' hE=>?_⟩
      cases j' with
      |zero=>simp only[Nat.add_zero,if_true]at hE;rw[g0]at hE;cases hE
      |succ j'=>
       simp only[if_neg (hne j')]at hE;rw[hadd j']at hE
       exact fun e=>((freshL id (i4 j' id e' (by simpa using hj') hE)).2.2.2 _ _ _ hF).1 e.symm
     ·exact .inr (.inl ⟨b,g4,fun o ho=>by rw[Nat.add_zero,hk]at ho;cases ho;exact g5⟩)
    |succ j=>
     simp only[if_neg (hne j)]at hF;rw[hadd j]at hF
     obtain⟨g1,g2,g3⟩:=i8 j x e f (by simpa using hj) hF
     refine⟨fun i=>(g1 i).imp id fun h o ho=>h o (by rw[←hadd j];exact ho),?_,?_⟩
     ·cases F0 with
      |none=>exact g2
      |some q=>
       obtain⟨y,e0,f0⟩:=q
       simp only[iF]at g2
       rw[ae]at g2
       split at g2
       ·cases g2
       ·exact g2
     ·rcases g3 with⟨g4,g5,g6⟩|⟨b,g4,g5⟩|⟨j',g4,g5,g6⟩
      ·refine .inl ⟨g4,fun q hq=>g5 q (memB q hq),fun j' id e' hj' hE=>?_⟩
       cases j' with
       |zero=>simp only[Nat.add_zero,if_true]at hE;exact g5 _ (memE _ hE)
       |succ j'=>
        simp only[if_neg (hne j')]at hE;rw[hadd j']at hE
        exact g6 j' id e' (by simpa using hj') hE
      ·cases hE:E0 with
       |none=>rw[hE]at g4;exact .inr (.inl ⟨b,g4,fun o ho=>g5 o (by rw[←hadd j];exact ho)⟩)
       |some q=>
        rw[hE]at g4
        rcases List.mem_cons.1 g4 with h|h
        ·obtain⟨y,e1⟩:=q
         simp only[Prod.mk.injEq]at h
         obtain⟨rfl,rfl,rfl⟩:=h
         exact .inr (.inr ⟨0,by simp,by simp[hE],fun o ho=>g5 o (by rw[←hadd j];exact ho)⟩)
        ·exact .inr (.inl ⟨b,h,fun o ho=>g5 o (by rw[←hadd j];exact ho)⟩)
      ·refine .inr (.inr ⟨j'+1,by simp;omega,?_,fun o ho=>?_⟩)
       ·simp only[if_neg (hne j')];rw[hadd j'];exact g5
       ·rw[hadd j'];exact g6 o (by rw[←hadd j];exact ho)
   ·have cross:∀j x e f e' f',j<al.length→F0=some (x,e,f)→F' (k+1+j)=some (x,e',f')→False:=fun j x e f e' f' hj h1 h2=>by
     obtain⟨_,g3,_⟩:=i8 j x e' f' hj h2
     rw[h1]at g3
     simp only[iF]at g3
     rw[ae,if_pos rfl]at g3;cases g3
    intro i j x e f e' f' hi hj h1 h2
    cases i with
    |zero=>
     simp only[Nat.add_zero,if_true]at h1
     cases j with
     |zero=>rfl
     |succ j=>
      simp only[if_neg (hne j)]at h2;rw[hadd j]at h2
      exact(cross j x e f e' f' (by simpa using hj) h1 h2).elim
    |succ i=>
     simp only[if_neg (hne i)]at h1;rw[hadd i]at h1
     cases j with
     |zero=>
      simp only[Nat.add_zero,if_true]at h2
      exact(cross i x e' f' e f (by simpa using hi) h2 h1).elim
     |succ j=>
      simp only[if_neg (hne j)]at h2;rw[hadd j]at h2
      rw[i9 i j x e f e' f' (by simpa using hi) (by simpa using hj) h1 h2]
   ·intro q hq j hj
    cases j with
    |zero=>
     simp only[Nat.add_zero,if_true]
     obtain⟨g1,g2,g3⟩:=hbs q hq
     refine⟨fun x hx=>g1 x (by rw[←hdk];exact hx),g2,fun x e f hF=>?_⟩
     rcases g3 x e f hF with h|h
     ·exact .inl fun o ho=>by rw[hk]at ho;cases ho;exact h
     ·exact .inr h
    |succ j=>
     simp only[if_neg (hne j)];rw[hadd j]
     exact i10 q (memB q hq) j (by simpa using hj)
  rcases h with⟨V0,h1,h2,h3,h4⟩|⟨id0,V0,e0,hd,hg,hnj,hN,hf,hb,h4⟩|⟨x0,e0,f0,hs,g1,g2,g3,g4,h4⟩
  ·exact key V0 none none (.inl ⟨rfl,rfl,h1⟩) h2 h4 (fun id e h=>by cases h) (fun x e f h=>by cases h) fun q hq=>⟨fun x _=>h3 q hq,fun id e h=>(by cases h),fun x e f h=>(by cases h)⟩
  ·refine key V0 (some (id0,e0)) none (.inr (.inl ⟨id0,e0,rfl,rfl,hg,hnj⟩)) (by rw[hd];exact hN) (by rw[hd];exact h4) (fun id e h=>by cases h;exact hf) (fun x e f h=>by cases h) fun q hq=>⟨fun x _=>(hb q hq).2,fun id e h=>?_,fun x e f h=>by cases h⟩
   cases h
   have:=jB (jC (jC hf).2).1 (p:=q.2) (List.mem_map.2 ⟨q,hq,rfl⟩)
   exact⟨fun e=>this.1 e.symm,(hb q hq).1⟩
  ·have hd0:=hs.2.1
   exact key .junk none (some (x0,e0,f0)) (.inr (.inr ⟨x0,e0,f0,rfl,rfl,hs⟩)) (by rw[hd0];rfl) (by rw[hd0];exact h4) (fun id e h=>by cases h) (fun x e f h=>by cases h;exact⟨rfl,g1,g2,g3⟩) fun q hq=>⟨fun x hx=>(by rw[hd0]at hx;cases hx),fun id e h=>(by cases h),fun x e f h=>(by cases h;exact g4 q hq)⟩
theorem Bf {X:Cx}{ops:Array Oper}{t:T}{σ0:Sg}{σ:Nat→Sg}{R:T→Sg→Prop}{Q':Exit→Act→World→Prop}(m:Nat)(hc:CalmR ops m)(hle:m≤ops.size)(hσ:∀i,Wk (σ i) σ0)
 (hend:∀t ss,R t ss→∀γ H a w listed,St X γ H t (ss++σ0) a w→listed.size=ops.size→(∀j,j<ops.size→listed.getD j false=decide (j<m))→wpAnyIn (Fr X.ro) 0 X.P .any ops Q' (ops.size-m) listed a w)
 (h:CT X ops σ0 σ R (ops.toList.take m) 0 t [] []):∀γ H a w,St X γ H t σ0 a w→wpAnyIn (Fr X.ro) 0 X.P .any ops Q' ops.size (Array.replicate ops.size false) a {w with drawn:=w.drawn+1}:=by
 intro γ H a w s
 have hlen:(ops.toList.take m).length=m:=by simp;omega
 obtain⟨V,E,F,tb⟩:=CT.table (ops.toList.take m) 0 t [] [] (fun j hj=>by rw[hlen]at hj;rw[Nat.zero_add,List.getElem?_take,if_pos hj];simp) h
 rw[hlen]at tb
 obtain⟨h1,⟨t',h2,h3⟩,i4,i5,i6,i7,i8,i9,_⟩:=tb
 simp only[Nat.zero_add]at h1 i4 i5 i6 i7 i8 i9
 have s':St X γ H t σ0 a {w with drawn:=w.drawn+1}:=⟨s.lam,s.round,s.defers,s.size,s.pinned,s.tmp,s.mem.drew⟩
 have hall:∀j,(Array.replicate ops.size false).getD j false=false:=fun j=>by
  rw[Array.getD_eq_getD_getElem?,Array.getElem?_replicate];split<;>rfl
 have cutE:∀i id e,(if i<m then E i else none)=some (id,e)→i<m∧E i=some (id,e):=fun i id e h=>by
  by_cases hi:i<m
  ·rw[if_pos hi]at h;exact⟨hi,h⟩
  ·rw[if_neg hi]at h;cases h
 have cutF:∀i x e f,(if i<m then F i else none)=some (x,e,f)→i<m∧F i=some (x,e,f):=fun i x e f h=>by
  by_cases hi:i<m
  ·rw[if_pos hi]at h;exact⟨hi,h⟩
  ·rw[if_neg hi]at h;cases h
 have zero:∀(G:Nat→Option (Nat×Ent))(B:Sg),au G (fun j=>(Array.replicate ops.size false).getD j false) B m=B:=fun G B=>by
  have h0:∀k,au G (fun _=>false) B k=B:=fun k=>by
   induction k with
   |zero=>rfl
   |succ k ih=>simp only[au,ih];split<;>simp
  rw[aI (S':=fun _=>false) m (fun j _ _=>hall j)];exact h0 m
 have hb:au (fun i=>if i<m then E i else none) (fun _=>true) σ0 m=bd E 0 [] m++σ0:=by
  rw[iw]
  congr 1
  exact cn m fun i _ hi=>if_pos (by omega)
 have hnew:∀(B:Sg) j,j≤m→au (dj fun i=>if i<m then F i else none) (fun _=>true) B j=eQ F 0 [] j++B:=fun B j=>by
  induction j with
  |zero=>intro _;rfl
  |succ j ih=>
   intro hj
   have e1:dj (fun i=>if i<m then F i else none) j=dj F j:=by
    unfold dj
    have:(if j<m then F j else none)=F j:=if_pos (by omega)
    simp only[this]
   simp only[au,eQ,Nat.zero_add]
   rw[ih (by omega),e1]
   unfold dj
   cases F j with
   |none=>rfl
   |some q=>obtain⟨x,e,f⟩:=q;rfl
 refine xC hc hle (V:=V) (E:=fun i=>if i<m then E i else none) (F:=fun i=>if i<m then F i else none) (σ:=σ0) (σq:=σ) hσ (fun i o hi ho=>by
  have:=h1 i o hi ho
  rw[bl]at this
  simp only[if_pos hi];exact this) (fun i hi=>if_neg (by omega)) (fun i hi=>if_neg (by omega)) (fun i id e hE=>?_) (fun i j x e f e' f' h1 h2=>by
   obtain⟨a1,a2⟩:=cutF _ _ _ _ h1
   obtain⟨b1,b2⟩:=cutF _ _ _ _ h2
   exact i9 i j x e f e' f' a1 b1 a2 b2) (fun i x e f hF=>?_) (fun γ H a w lst st hls hlst=>?_) ops.size _ γ H a _ (by simp) (fun j _=>hall j) (fun i o hi=>by rw[hall i]at hi;cases hi) ?_ ?_ ?_
 ·obtain⟨him,hE⟩:=cutE _ _ _ hE
  refine⟨(by simpa[bsS]using i4 i id e him hE),fun j x hj hne hx=>i5 i j x id e him hj hne hE hx,fun j id' e' hne hE'=>?_,fun j x e' f hF=>?_⟩
  ·obtain⟨hj,hE'⟩:=cutE _ _ _ hE'
   exact i6 i j id e id' e' him hj hne hE hE'
  ·obtain⟨hj,hF⟩:=cutF _ _ _ _ hF
   exact i7 i j id e x e' f him hj hE hF
 ·obtain⟨him,hF⟩:=cutF _ _ _ _ hF
  obtain⟨g1,_,g3⟩:=i8 i x e f him hF
  refine⟨g1,?_⟩
  rcases g3 with⟨g4,_,g6⟩|⟨b,g4,_⟩|⟨j',g4,g5,g6⟩
  ·refine .inl ⟨g4,fun j id e' hE=>?_⟩
   obtain⟨hj,hE⟩:=cutE _ _ _ hE
   exact g6 j id e' hj hE
  ·cases g4
  ·exact .inr ⟨j',g4,(if_pos g4).trans g5,g6⟩
 ·rw[hb,hnew _ m (Nat.le_refl _),←List.append_assoc]at st
  exact hend _ _ h3 γ H a w lst (st.wk (by rw[bl]at h2;exact h2) (Wk.refl _)) hls hlst
 ·have:((List.range m).filter fun j=>!(Array.replicate ops.size false).getD j false)=List.range m:=List.filter_eq_self.2 fun j _=>by rw[hall j];rfl
  rw[this,List.length_range];omega
 ·intro x b hx
  have:bB ops (fun j=>(Array.replicate ops.size false).getD j false) x m=none:=by
   have h0:∀k,bB ops (fun _=>false) x k=none:=fun k=>by
    induction k with
    |zero=>rfl
    |succ k ih=>simp[bB,ih]
   rw[aA (S':=fun _=>false) m (fun j _ _=>hall j)];exact h0 m
  simp only[aN,this]at hx
  exact s.tmp x b hx
 ·rw[zero,zero];exact s'.wk (Wk.nil _) (Wk.refl _)
def pI (i:Nat):Bs→Option (Nat×Ent)
 |[]=>none
 |(b,j,e)::r=>match Nat.beq i j with|true=>some (b,e)|false=>pI i r
theorem nR {i:Nat}:∀{bs:Bs}{b:Nat}{e:Ent},pI i bs=some (b,e)→(b,i,e)∈bs
 |[],b,e,h=>by cases h
 |(c,j,f)::r,b,e,h=>by
  simp only[pI]at h
  split at h
  ·next hb=>cases h;have:=Nat.eq_of_beq_eq_true hb;subst this;simp
  ·exact List.mem_cons.2 (.inr (nR h))
theorem nS {i:Nat}:∀{bs:Bs},pI i bs=none→∀p,p∈bs→p.2.1≠i
 |[],_,p,hp=>by cases hp
 |(c,j,f)::r,h,p,hp=>by
  simp only[pI]at h
  split at h
  ·cases h
  ·next hb=>
   rcases List.mem_cons.1 hp with rfl|hp
   ·intro e;simp only at e;subst e;simp at hb
   ·exact nS h p hp
def okB (o:Oper)(i:Nat)(f:Ent)(bs:Bs):Bool:=bs.all fun p=>cb o p.1||(!Nat.beq i p.2.1&&!aJ p.2.1 f)
def FQ (o:Oper)(i:Nat)(σ0:Sg)(bs:Bs):Option Ent:=match pI i bs with
 |some (b,e)=>(match cb o b with|true=>some e|false=>none)
 |none=>look i σ0
def oF (o:Oper):Nat→Bool
 |0=>true
 |m0+1=>cb o m0&&oF o m0
theorem mw {o:Oper}:∀{m0 i:Nat},oF o m0=true→i<m0→cb o i=true
 |m0+1,i,h,hi=>by
  simp only[oF,Bool.and_eq_true]at h
  by_cases e:i=m0
  ·rw[e];exact h.1
  ·exact mw h.2 (by omega)
def sgE (m0:Nat)(σ0 σ:Sg)(k:Nat):Sg:=match Nat.blt k m0 with
 |true=>σ0
 |false=>σ
theorem yx {m0 x:Nat}{σ0 σ:Sg}{o:Oper}(h:look x σ=none)(he:oF o m0=true)(i:Nat):look x (sgE m0 σ0 σ i)=none∨cb o i=true:=by
 unfold sgE
 split
 ·next hb=>exact .inr (mw he (Nat.le_of_ble_eq_true hb))
 ·exact .inl h
def stT (X:Cx)(m0:Nat)(o:Oper)(e:TypeId)(x y:Operand)(t:T)(σ0 σ:Sg)(bs:Bs)(ss:Sg)(K:Nat→Ent→Prop):Prop:=match fu X.P e,ge t x,ge t y with
 |some n,some (.box i off),some v=>(match FQ o i σ0 bs,look i σ,look i ss with
  |some (.cells cs),none,none=>(match cz v&&gp (aE v)&&Nat.beq (aE v).length n&&Nat.ble (off+n) cs.length with
   |true=>xj (off+n) (Bp cs off (aE v)) fun cs'=>(match okB o i (.cells cs') bs&&oF o m0 with|true=>K i (.cells cs')|false=>False)
   |false=>False)
  |_,_,_=>False)
 |_,_,_=>False
def rM (X:Cx)(o:Oper)(k:Nat)(t:T)(σ0 σ:Sg)(bs:Bs)(ss:Sg)(K:T→Bs→Prop):Prop:=match vZ X o t,o.dst,o.guard with
 |some cs,some id,none=>(match am id t (ss++(bsS bs++σ0)) X.pin&&!cs.any (aP id)&&dOk (some id) X.N&&bs.all (fun p=>!aJ p.2.1 (.cells cs))with
  |true=>K ((id,.box id 0)::t) ((k,id,.cells cs)::bs)
  |false=>False)
 |_,d,gd=>qw X o t σ (fun V=>match dOk d X.N&&bs.all (fun p=>!aP p.2.1 V)with|true=>K (putT d V t) bs|false=>False)
  (QuietP X o t σ (fun V=>match dOk d X.N&&bs.all (fun p=>!aP p.2.1 V)with|true=>K (putT d V t) bs|false=>False)
   fun id V e=>match d,gd with
    |some id',none=>(match Nat.beq id id'&&am id t (ss++(bsS bs++σ0)) X.pin&&dOk (some id) X.N&&bs.all (fun p=>!aJ p.2.1 e)&&bs.all (fun p=>!aP p.2.1 V)with
     |true=>K ((id,V)::t) ((k,id,e)::bs)
     |false=>False)
    |_,_=>False)
def vT (X:Cx)(all:Array Oper)(m0:Nat)(σ0 σ:Sg)(Q:T→Sg→Prop):List Oper→Nat→T→Bs→Sg→Prop
 |[],_,t,bs,ss=>Q t (ss++bsS bs)
 |o::al,k,t,bs,ss=>match o.op,o.dst,o.guard with
  |.store e x y,none,none=>stT X m0 o e x y t σ0 σ bs ss fun i f=>vT X all m0 σ0 σ Q al (k+1) t bs ((i,f)::ss)
  |_,_,none=>rM X o k t σ0 (sgE m0 σ0 σ k) bs ss fun t bs=>vT X all m0 σ0 σ Q al (k+1) t bs ss
  |_,_,some (j,b0)=>match p4 all j,dOk o.dst X.N with
   |some d,true=>(match look d t with
    |some (.d (.v (.bool b)))=>grd b0 b d t (fun t=>rM X o k t σ0 (sgE m0 σ0 σ k) bs ss fun t bs=>vT X all m0 σ0 σ Q al (k+1) t bs ss) (fun t=>vT X all m0 σ0 σ Q al (k+1) (putT o.dst (.tup []) t) bs ss)
    |some (.tup [])=>vT X all m0 σ0 σ Q al (k+1) (putT o.dst (.tup []) t) bs ss
    |_=>False)
   |_,_=>False
theorem CT.wk {X:Cx}{all:Array Oper}{σ0:Sg}{σ:Nat→Sg}{Q:T→Sg→Prop}:∀(al:List Oper)(k:Nat)(t t':T)(bs:Bs)(ss:Sg),Wk t' t→(∀p,p∈t→p∈t')→CT X all σ0 σ Q al k t' bs ss→CT X all σ0 σ Q al k t bs ss
 |[],k,t,t',bs,ss,hw,_,⟨t'',h1,h2⟩=>⟨t'',h1.trans hw,h2⟩
 |o::al,k,t,t',bs,ss,hw,hm,h=>by
  rcases h with⟨V,h1,h2,h3,h4⟩|⟨id,V,e,hd,hg,hn,hN,hf,hb,h4⟩|⟨x,e,f,hs,g1,g2,g3,g4,h4⟩
  ·refine .inl ⟨V,h1.wk hw,h2,h3,CT.wk al _ _ _ bs ss hw.put (fun p hp=>?_) h4⟩
   cases ho:o.dst with
   |none=>rw[ho]at hp;exact hm p hp
   |some d=>
    rw[ho]at hp
    rcases List.mem_cons.1 hp with h|h
    ·exact List.mem_cons.2 (.inl h)
    ·exact List.mem_cons.2 (.inr (hm p h))
  ·refine .inr (.inl ⟨id,V,e,hd,hg,hn.wk hw,hN,mj hf hm,hb,CT.wk al _ _ _ _ ss (fun i a hi=>?_) (fun p hp=>?_) h4⟩)
   ·rw[ae]at hi ⊢
    split
    ·next e=>rw[if_pos e]at hi;exact hi
    ·next e=>rw[if_neg e]at hi;exact hw i a hi
   ·rcases List.mem_cons.1 hp with h|h
    ·exact List.mem_cons.2 (.inl h)
    ·exact List.mem_cons.2 (.inr (hm p h))
  ·exact .inr (.inr ⟨x,e,f,hs.wk hw,g1,g2,g3,g4,CT.wk al _ _ _ bs _ hw hm h4⟩)
theorem ma {X:Cx}{all:Array Oper}{o:Oper}{k:Nat}{t:T}{σ0 ss:Sg}{σ:Nat→Sg}{bs:Bs}{al:List Oper}{Q:T→Sg→Prop}{K:T→Bs→Prop}(hK:∀t bs,K t bs→CT X all σ0 σ Q al (k+1) t bs ss)
 (hg:o.guard=none∨∃j b d,o.guard=some (j,b)∧((all[j]?).bind (·.dst))=some d∧look d t=some (.d (.v (.bool b))))(h:rM X o k t σ0 (σ k) bs ss K):CT X all σ0 σ Q (o::al) k t bs ss:=by
 have allB:∀(V:AV),(bs.all fun p=>!aP p.2.1 V)=true→∀p,p∈bs→aP p.2.1 V=false:=fun V h p hp=>by simpa using List.all_eq_true.1 h p hp
 have allE:∀(e:Ent),(bs.all fun p=>!aJ p.2.1 e)=true→∀p,p∈bs→aJ p.2.1 e=false:=fun e h p hp=>by simpa using List.all_eq_true.1 h p hp
 have fin:∀V,QJ X o t (σ k) V→(match dOk o.dst X.N&&bs.all (fun p=>!aP p.2.1 V)with|true=>K (putT o.dst V t) bs|false=>False)→CT X all σ0 σ Q (o::al) k t bs ss:=fun V hq hk=>by
  split at hk
  ·next hb=>
   simp only[Bool.and_eq_true]at hb
   rcases hg with hg|⟨j,b,d,h1,h2,h3⟩
   ·exact .inl ⟨V,.inl ⟨hg,hq⟩,hb.1,allB V hb.2,hK _ _ hk⟩
   ·exact .inl ⟨V,.inr (.inl ⟨j,b,d,h1,h2,h3,hq⟩),hb.1,allB V hb.2,hK _ _ hk⟩
  ·exact hk.elim
 unfold rM at h
 split at h
 ·next cs id hb hd hg0=>
  split at h
  ·next hx=>
   simp only[Bool.and_eq_true,Bool.not_eq_true']at hx
   refine .inr (.inl ⟨id,_,_,hd,hg0,(mC hb).birth hx.1.1.2,hx.1.2,hx.1.1.1,fun p hp=>⟨allE _ hx.2 p hp,?_⟩,hK _ _ h⟩)
   have:=(jB (jC (jC hx.1.1.1).2).1 (p:=p.2) (List.mem_map.2 ⟨p,hp,rfl⟩)).1
   have hne:Nat.beq p.2.1 id=false:=by rw[←Bool.not_eq_true,Nat.beq_eq];exact this
   simp[aP,cm,bX,hne]
  ·exact h.elim
 ·rcases iN h with⟨V,hq,hk⟩|h
  ·exact fin V hq hk
  ·cases h with
   |of hq hk=>exact fin _ hq hk
   |born hb hk=>
    split at hk
    ·next id' hd hg0=>
     split at hk
     ·next hx=>
      simp only[Bool.and_eq_true]at hx
      obtain rfl:=Nat.eq_of_beq_eq_true hx.1.1.1.1
      exact .inr (.inl ⟨_,_,_,hd,hg0,hb,hx.1.1.2,hx.1.1.1.2,fun p hp=>⟨allE _ hx.1.2 p hp,allB _ hx.2 p hp⟩,hK _ _ hk⟩)
     ·exact hk.elim
    ·exact hk.elim
theorem wF {X:Cx}{m0:Nat}{o:Oper}{e:TypeId}{x y:Operand}{t:T}{σ0 σ ss:Sg}{bs:Bs}{K:Nat→Ent→Prop}(ho:o.op=.store e x y)(hd:o.dst=none)(hg:o.guard=none)(h:stT X m0 o e x y t σ0 σ bs ss K):
 ∃id en f,StoreJ X o t id en f∧(∀i,look id (sgE m0 σ0 σ i)=none∨cb o i=true)∧look id ss=none∧((look id σ0=some en∧∀p,p∈bs→p.2.1≠id)∨(∃b,(b,id,en)∈bs∧cb o b=true))∧(∀p,p∈bs→cb o p.1=true∨(id≠p.2.1∧aJ p.2.1 f=false))∧K id f:=by
 unfold stT at h
 split at h
 ·next n i off v hs hx hy=>
  split at h
  ·next cs h1 h2 h3=>
   split at h
   ·next hb=>
    simp only[Bool.and_eq_true,Nat.ble_eq,Nat.beq_eq]at hb
    rw[mX,qp]at h
    split at h
    ·next hok=>
     rw[Bool.and_eq_true]at hok
     refine⟨i,.cells cs,.cells (bI cs off (aE v)),⟨hg,hd,fun t' σ' hop hl=>?_⟩,yx h2 hok.2,h3,?_,fun p hp=>?_,h⟩
     ·obtain⟨d,op,ty,pos,aft,g⟩:=o
      simp only at ho hd hg
      subst ho;subst hd;subst hg
      exact O.store (hop x (by simp[Op.operands]) _ hx) rfl (hop y (by simp[Op.operands]) _ hy) hl hb.1.1.1 hb.1.1.2 (aK hs) hb.1.2 hb.2 rfl ⟨rfl,rfl⟩
     ·unfold FQ at h1
      split at h1
      ·next b en hlb=>
       split at h1
       ·next he=>cases h1;exact .inr ⟨b,nR hlb,he⟩
       ·cases h1
      ·next hlb=>exact .inl ⟨h1,nS hlb⟩
     ·have:=List.all_eq_true.1 hok.1 p hp
      rcases Bool.or_eq_true_iff.1 this with h5|h5
      ·exact .inl h5
      ·simp only[Bool.and_eq_true,Bool.not_eq_true']at h5
       exact .inr ⟨fun e=>by rw[e]at h5;simp at h5,h5.2⟩
    ·exact h.elim
   ·exact h.elim
  ·exact h.elim
 ·exact h.elim
theorem gy {X:Cx}{all:Array Oper}{m0:Nat}{σ0 σ:Sg}{Q:T→Sg→Prop}:∀(al:List Oper)(k:Nat)(t:T)(bs:Bs)(ss:Sg),vT X all m0 σ0 σ Q al k t bs ss→CT X all σ0 (sgE m0 σ0 σ) Q al k t bs ss
 |[],k,t,bs,ss,h=>⟨t,Wk.refl t,h⟩
 |o::al,k,t,bs,ss,h=>by
  unfold vT at h
  split at h
  ·next e x y ho hd hg=>
   obtain⟨id,en,f,h1,h2,h3,h4,h5,h6⟩:=wF ho hd hg h
   exact .inr (.inr ⟨id,en,f,h1,h2,h3,h4,h5,gy al _ t bs _ h6⟩)
  ·next hg _=>exact ma (fun t bs h=>gy al _ t bs ss h) (.inl hg) h
  ·next j b0 hg=>
   split at h
   ·next d hd hN=>
    have hd':((all[j]?).bind (·.dst))=some d:=by rw[kY];exact hd
    split at h
    ·next b hb=>
     have yes:∀c,b=c→rM X o k ((d,.d (.v (.bool c)))::t) σ0 (sgE m0 σ0 σ k) bs ss (fun t bs=>vT X all m0 σ0 σ Q al (k+1) t bs ss)→c=b0→CT X all σ0 (sgE m0 σ0 σ) Q (o::al) k t bs ss:=fun c hc he hcb=>by
      subst hc;subst hcb
      exact CT.wk _ _ _ _ _ _ (Wk.cons hb (Wk.refl t)) (fun p hp=>List.mem_cons.2 (.inr hp)) (ma (fun t bs h=>gy al _ t bs ss h) (.inr ⟨j,b,d,hg,hd',by rw[ae,if_pos rfl]⟩) he)
     have no:∀c,b=c→vT X all m0 σ0 σ Q al (k+1) (putT o.dst (.tup []) ((d,.d (.v (.bool c)))::t)) bs ss→c≠b0→CT X all σ0 (sgE m0 σ0 σ) Q (o::al) k t bs ss:=fun c hc he hcb=>by
      subst hc
      exact CT.wk _ _ _ _ _ _ (Wk.cons hb (Wk.refl t)) (fun p hp=>List.mem_cons.2 (.inr hp)) (.inl ⟨.tup [],.inr (.inr (.inl ⟨j,b0,b,d,hg,hd',by rw[ae,if_pos rfl],hcb,rfl⟩)),hN,fun p _=>by simp[aP],gy al _ _ bs ss he⟩)
     cases b0 with
     |true=>cases b with
      |true=>exact yes true rfl (h.1 rfl) rfl
      |false=>exact no false rfl (h.2 rfl) (by simp)
     |false=>cases b with
      |true=>exact no true rfl (h.1 rfl) (by simp)
      |false=>exact yes false rfl (h.2 rfl) rfl
    ·next hb=>exact .inl ⟨.tup [],.inr (.inr (.inr ⟨j,b0,d,hg,hd',hb,rfl⟩)),hN,fun p _=>by simp[aP],gy al _ _ bs ss h⟩
    ·exact h.elim
   ·exact h.elim
theorem DU {m0:Nat}{σ0 σ:Sg}(h:Wk σ σ0)(i:Nat):Wk (sgE m0 σ0 σ i) σ0:=by
 unfold sgE
 split
 ·exact Wk.refl _
 ·exact h
theorem yh {σ σ':Sg}:∀ss:Sg,Wk σ σ'→Wk (ss++σ) (ss++σ')
 |[],h=>h
 |(x,e)::ss,h=>fun y f hy=>by
  rw[List.cons_append,ae]at hy ⊢
  split
  ·next g=>rw[if_pos g]at hy;exact hy
  ·next g=>rw[if_neg g]at hy;exact yh ss h y f hy
def RegA (X:Cx)(ops:Array Oper)(t:T)(σ:Sg)(Q:T→Sg→Prop):Prop:=∀Q':Qt,(∀t σ,Q t σ→Q' .normal t σ)→∀γ H a w,St X γ H t σ a w→wpAnyIn (Fr X.ro) 0 X.P .any ops (pn X Q') ops.size (Array.replicate ops.size false) a {w with drawn:=w.drawn+1}
theorem Al {X:Cx}{id:Nat}{ops:Array Oper}{t:T}{σ:Sg}{Q:T→Sg→Prop}(hm:X.P.follows .mixedOrders=true)(h:RegA X ops t σ Q):RegP X id ops t σ Q:=fun Q' hQ γ H a w s=>wpIn_region_any hm (h Q' hQ γ H a w s)
theorem RegA.mixE {X:Cx}{ops:Array Oper}{t:T}{σ:Sg}{Q:T→Sg→Prop}(m0 m:Nat)(ks:List Nat)(hc:(oR ops m&&Nat.ble m ops.size)=true)
 (h:vT X ops m0 σ (dJ ks σ) (fun t ss=>vO X ops Q (ops.size-m) (fT m (dc (ops.size-m))) t (ss++dJ ks σ)) (ops.toList.take m) 0 t [] []):RegA X ops t σ Q:=by
 intro Q' hQ
 simp only[Bool.and_eq_true,Nat.ble_eq]at hc
 refine Bf m (oQ hc.1) hc.2 (fun i=>DU (iW ks σ).1 i) (fun t ss h3 γ H a w lst hst hls hlst=>?_) (gy _ _ _ _ _ h)
 have e:lst=(fT m (dc (ops.size-m))).toArray:=by
  rw[iJ,fi]
  apply Array.ext
  ·simp[hls];omega
  ·intro j h1 h2
   have hj:=hlst j (by omega)
   rw[Array.getD_eq_getD_getElem?,Array.getElem?_eq_getElem h1,Option.getD_some]at hj
   rw[hj,List.getElem_toArray,List.getElem_append]
   split
   ·next h3=>simp at h3;simp[h3]
   ·next h3=>simp at h3;simp;omega
 rw[e]
 exact gz (Q:=Q) (Q':=pn X Q') (fun γ H t σ a w s q=>⟨γ,H,t,σ,s,hQ t σ q⟩) (ops.size-m) _ t _ h3 γ H a w (hst.wk (Wk.refl t) (yh ss (iW ks σ).1))
theorem RegP.mixE {X:Cx}{id:Nat}{ops:Array Oper}{t:T}{σ:Sg}{Q:T→Sg→Prop}(m0 m:Nat)(ks:List Nat)(hm:X.P.follows .mixedOrders=true)(hc:(oR ops m&&Nat.ble m ops.size)=true)
 (h:vT X ops m0 σ (dJ ks σ) (fun t ss=>vO X ops Q (ops.size-m) (fT m (dc (ops.size-m))) t (ss++dJ ks σ)) (ops.toList.take m) 0 t [] []):RegP X id ops t σ Q:=Al hm (RegA.mixE m0 m ks hc h)
def j2 (j:Nat):List Nat→Nat
 |[]=>0
 |k::r=>match Nat.beq j k with|true=>0|false=>j2 j r+1
def Bz (π:List Nat)(o:Oper):Oper:=⟨o.dst,o.op,o.type,o.pos,o.after.map fun e=>{e with on:=j2 e.on π},match o.guard with|some (j,b)=>some (j2 j π,b)|none=>none⟩
def vh (ops:Array Oper)(π:List Nat):Array Oper:=(π.filterMap fun j=>(ops[j]?).map (Bz π)).toArray
theorem kD {j:Nat}:∀{π:List Nat},j2 j π<π.length→π[j2 j π]?=some j
 |[],h=>by simp[j2]at h
 |k::r,h=>by
  unfold j2 at h ⊢
  by_cases e:j=k
  ·subst e;simp
  ·have hb:Nat.beq j k=false:=by rw[←Bool.not_eq_true,Nat.beq_eq];exact e
   rw[hb]at h ⊢
   simp only[List.length_cons,List.getElem?_cons_succ]at h ⊢
   exact kD (by omega)
theorem vg {j:Nat}:∀{π:List Nat},j∉π→j2 j π=π.length
 |[],_=>rfl
 |k::r,h=>by
  unfold j2
  have hb:Nat.beq j k=false:=by rw[←Bool.not_eq_true,Nat.beq_eq];exact fun e=>h (by simp[e])
  rw[hb]
  simp only[List.length_cons,vg fun h'=>h (List.mem_cons_of_mem _ h')]
structure PermI (ops:Array Oper)(π:List Nat):Prop where
 len:π.length=ops.size
 lt:∀j,j∈π→j<ops.size
 pos:∀j,j<ops.size→j2 j π<ops.size
theorem PermI.list {ops:Array Oper}{π:List Nat}(h:PermI ops π):∀(ρ:List Nat),(∀j,j∈ρ→j<ops.size)→(ρ.filterMap fun j=>(ops[j]?).map (Bz π))=ρ.map fun j=>Bz π (ops[j]?.getD default)
 |[],_=>rfl
 |j::r,hl=>by
  have hj:=hl j (by simp)
  rw[List.filterMap_cons,List.map_cons,PermI.list h r fun k hk=>hl k (List.mem_cons_of_mem _ hk)]
  simp[hj]
theorem PermI.size {ops:Array Oper}{π:List Nat}(h:PermI ops π):(vh ops π).size=ops.size:=by
 unfold vh
 rw[h.list π h.lt];simp[h.len]
theorem PermI.get {ops:Array Oper}{π:List Nat}(h:PermI ops π)(i:Nat):(vh ops π)[j2 i π]?=(ops[i]?).map (Bz π):=by
 unfold vh
 rw[h.list π h.lt,List.getElem?_toArray,List.getElem?_map]
 by_cases hi:i<ops.size
 ·rw[kD (by rw[h.len];exact h.pos i hi)]
  simp[hi]
 ·have hno:i∉π:=fun hm=>hi (h.lt i hm)
  rw[vg hno,List.getElem?_eq_none (Nat.le_refl _)]
  simp[hi]
theorem PermI.back {ops:Array Oper}{π:List Nat}(h:PermI ops π){j:Nat}(hj:j<ops.size):∃i,i<ops.size∧j2 i π=j:=by
 have inj:∀i k,i<ops.size→k<ops.size→j2 i π=j2 k π→i=k:=fun i k h1 h2 e=>by
  have a:=kD (j:=i) (π:=π) (by rw[h.len];exact h.pos i h1)
  have b:=kD (j:=k) (π:=π) (by rw[h.len];exact h.pos k h2)
  rw[e,b]at a;cases a;rfl
 have key:∀(n:Nat)(f:Nat→Nat),(∀i,i<n→f i<n)→(∀i k,i<n→k<n→f i=f k→i=k)→∀j,j<n→∃i,i<n∧f i=j:=fun n=>by
  induction n with
  |zero=>intro f _ _ j hj;omega
  |succ n ih=>
   intro f hf hi j hj
   by_cases hjn:∃i,i<n+1∧f i=j
   ·exact hjn
   exfalso
   have g:=ih (fun i=>if f i=n then(if j=n then 0 else j)else f i)
   by_cases e:j=n
   ·subst e
    obtain⟨i,h1,h2⟩:=ih f (fun i hi'=>by
     have:=hf i (by omega)
     have:f i≠j:=fun e=>hjn ⟨i,by omega,e⟩
     omega) (fun i k h1 h2=>hi i k (by omega) (by omega)) (f j) (by
     have:=hf j (by omega)
     have:f j≠j:=fun e=>hjn ⟨j,by omega,e⟩
     omega)
    have:=hi i j (by omega) (by omega) h2
    omega
   ·have hjn':j<n:=by omega
    simp only[if_neg e]at g
    have hne:∀i,i<n+1→f i≠j:=fun i h e=>hjn ⟨i,h,e⟩
    obtain⟨i,h1,h2⟩:=g (fun i hi'=>by
     split
     ·exact hjn'
     ·have:=hf i (by omega);omega) (fun i k h1 h2 e'=>by
     split at e'
     ·next a=>
      split at e'
      ·next b=>exact hi i k (by omega) (by omega) (a.trans b.symm)
      ·exact absurd e'.symm (hne k (by omega))
     ·split at e'
      ·exact absurd e' (hne i (by omega))
      ·exact hi i k (by omega) (by omega) e') (if f n=n then j else f n) (by
     split
     ·exact hjn'
     ·have:=hf n (by omega);omega)
    split at h2
    ·next a=>
     split at h2
     ·next b=>have:=hi i n (by omega) (by omega) (a.trans b.symm);omega
     ·exact hne n (by omega) h2.symm
    ·split at h2
     ·exact hne i (by omega) h2
     ·have:=hi i n (by omega) (by omega) h2;omega
 exact key ops.size (fun i=>j2 i π) h.pos inj j hj
end Go.Gv
end
