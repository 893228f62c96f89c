/- Laws that the claim's text stands on: part M3 of them. -/
import Derived.Test.YtaojepfldokjdaaGreatDoorM1
import Derived.Test.YtaojepfldokjdaaGreatDoorM2
import Derived.Laws.BytesString
import Derived.Lib.LaidTab
import Derived.Lib.AppendIntMem
import Derived.OpenShut
import Derived.ChangeOld
import Derived.SizedLaws
import Derived.Deep.Slices
import Derived.WideShapes
import Derived.RangeFuncNested
import Derived.Lib.Builder
import Derived.Lib.UnsafeStr
set_option linter.unusedVariables false
set_option linter.unusedSimpArgs false
section
namespace Go.Gv
open Go.RowKit
def fZ (k:Nat):Nat→List D→List (List D)
 |0,_=>[]
 |n+1,ds=>ds.take k::fZ k n (ds.drop k)
theorem km (k:Nat):∀(n:Nat)(ds:List D),fZ k n ds=eC k n ds
 |0,ds=>by simp[fZ,eC]
 |n+1,ds=>by
  rw[fZ,km k n]
  simp only[eC]
  rw[List.range_succ_eq_map]
  simp only[List.map_cons,List.map_map,Nat.zero_mul,List.drop_zero,List.cons.injEq,true_and]
  refine List.map_congr_left fun j _=>?_
  simp only[Function.comp,List.drop_drop,Nat.succ_eq_add_one]
  rw[Nat.add_mul,Nat.one_mul,Nat.add_comm]
def cellsP (P:Program)(t:TypeId):Nat:=match inf P t with|some i=>i.size|none=>0
theorem ut (P:Program)(t:TypeId):cellsP P t=P.cellsOf t:=by
 unfold cellsP Program.cellsOf;rw[mi];cases P.info? t<;>rfl
def oI (fs:List Field)(P:Program)(i:Nat):Option (Nat×Nat):=match fs[i]? with
 |some f=>some (f.offset,cellsP P f.type)
 |none=>none
theorem tU (fs:List Field)(P:Program)(i:Nat):(fs.map fun f=>(f.offset,P.cellsOf f.type))[i]?=oI fs P i:=by
 unfold oI
 rw[List.getElem?_map]
 cases fs[i]?<;>simp[ut]
def lg (P:Program):List Field→Bool
 |[]=>true
 |f::r=>gX (inf P f.type)&&lg P r
theorem mh {P:Program}:∀{fs:List Field},lg P fs=true→(fs.all fun f=>(P.info? f.type).isSome)=true
 |[],_=>rfl
 |f::r,h=>by
  simp only[lg,mi,Bool.and_eq_true]at h
  simp only[List.all_cons,Bool.and_eq_true]
  refine⟨?_,mh h.2⟩
  cases hx:P.info? f.type with
  |none=>rw[hx]at h;simp[gX]at h
  |some i=>rfl
section
variable {X:Cx} {d:Option Nat} {ty:TypeId} {pos:String} {aft:Array Edge} {g:Option (Nat×Bool)} {t:T} {σ:Sg} {K:AV→Prop} {F:Prop}
theorem xm {s el:TypeId}{n k:Nat}{parts:Array (Nat×Operand)}{z:Value}{ps:List (Nat×AV)}{cs:List AV}(hp:dY t parts.toList=some ps)(hu:X.P.underlying s=some (.array n el))
 (hzv:∀w,(zeroValue s).run X.P w=.ok z w)(hs:∀w,(sizeOf el).run X.P w=.ok k w)
 (hf:fe (fun i=>some (i*k,k)) (z.cells.toList.map eH) ps=some cs):QJ X ⟨d,.build s parts,ty,pos,aft,g⟩ t σ (.agg cs):=
 QJ.value (by simp) (fun γ H a w so sm=>by
  obtain⟨h1,h2⟩:=dv (t:=t) (l:=parts.toList) (fun x hx=>so x (by simp[Op.operands]at hx ⊢;exact hx)) hp
  obtain⟨us',e1,e2,e3⟩:=fY (γ:=γ) (H:=H) ps _ (z.cells.toList.map eH) z.cells.toList (by simp) (fun j x y hx hy=>by
   simp only[List.getElem?_map,hy,Option.map_some,Option.some.injEq]at hx
   subst hx;exact fQ y) h1 h2 hf
  simp only[Array.toArray_toList]at e1
  refine⟨.agg us'.toArray,?_,.agg _ _ e2 e3⟩
  have e:parts.map (fun(i,x)=>(i,a.eval x))=(parts.toList.map fun p=>(p.1,a.eval p.2)).toArray:=by
   apply Array.toList_inj.1;simp
  simp only[execOp,Sem.run_bind,e,Instr.build,hzv,Result.andThen_ok,run_underlying hu,hs]
  simp only[e1,Sem.run_pure,Result.andThen_ok])
def q7 (X:Cx)(s:TypeId)(parts:Array (Nat×Operand))(t:T)(K:AV→Prop)(F:Prop):Prop:=
 match und X.P s,db X.P s,dY t parts.toList with
 |some (.struct fs),some z,some ps=>(match lg X.P fs.toList,fe (oI fs.toList X.P) (z.cells.toList.map eH) ps with
  |true,some cs=>K (.agg cs)
  |_,_=>F)
 |some (.array _ el),some z,some ps=>(match fm X.P el with
  |some k=>(match fe (fun i=>some (i*k,k)) (z.cells.toList.map eH) ps with
   |some cs=>K (.agg cs)
   |none=>F)
  |none=>F)
 |_,_,_=>F
theorem oG {s:TypeId}{parts:Array (Nat×Operand)}(h:q7 X s parts t K F):bH X ⟨d,.build s parts,ty,pos,aft,g⟩ t σ K F:=by
 simp only[q7,bN]at h
 split at h
 ·next fs z ps hu hz hp=>
  split at h
  ·next cs hi hf=>
   refine .inl ⟨_,O.build hp hu (bx hz) (mh hi) ?_,h⟩
   have:(fun i=>(fs.toList.map fun f=>(f.offset,X.P.cellsOf f.type))[i]?)=oI fs.toList X.P:=funext fun i=>tU _ _ _
   rw[this];exact hf
  ·exact .inr h
 ·next n el z ps hu hz hp=>
  split at h
  ·next k hs=>
   split at h
   ·next cs hf=>exact .inl ⟨_,xm hp hu (bx hz) (aK hs) hf,h⟩
   ·exact .inr h
  ·exact .inr h
 ·exact .inr h
def gw (X:Cx)(st:TypeId)(len:Nat)(parts:Array (Nat×Operand))(t:T)(K:AV→Prop)(F:Prop):Prop:=
 match und X.P st with
 |some (.slice el)=>(match fm X.P el,db X.P el,dY t parts.toList with
  |some k,some z,some ps=>(match Nat.ble (len*k) 16777216&&Nat.ble len 16777216,fe (fun i=>some (i*k,k)) (ir z.cells.toList (len*k)) ps with
   |true,some cs=>(match eN cs with
    |some ds=>(match Nat.beq ds.length (len*k)with
     |true=>K (.full k (fZ k len ds))
     |false=>F)
    |none=>F)
   |_,_=>F)
  |_,_,_=>F)
 |_=>F
theorem jf {st:TypeId}{len:Nat}{parts:Array (Nat×Operand)}(h:gw X st len parts t K F):bH X ⟨d,.buildSlice st len parts,ty,pos,aft,g⟩ t σ K F:=by
 simp only[gw,bN]at h
 split at h
 ·next el hu=>
  split at h
  ·next k z ps hs hz hp=>
   split at h
   ·next cs hb hf=>
    split at h
    ·next ds hd=>
     split at h
     ·next hl=>
      simp only[Bool.and_eq_true,Nat.ble_eq]at hb
      rw[km]at h
      exact .inl ⟨_,Bu hp hu (aK hs) (bx hz) hb.1 hb.2 hf hd (Nat.eq_of_beq_eq_true hl),h⟩
     ·exact .inr h
    ·exact .inr h
   ·exact .inr h
  ·exact .inr h
 ·exact .inr h
def qw (X:Cx)(o:Oper)(t:T)(σ:Sg)(K:AV→Prop)(F:Prop):Prop:=match o.op with
 |.build s parts=>q7 X s parts t K F
 |.buildSlice st len parts=>gw X st len parts t K F
 |.lookup mt x y ok=>vn X mt x y ok t σ K F
 |_=>qv X o t σ K F
theorem je {o:Oper}(h:qw X o t σ K F):bH X o t σ K F:=by
 unfold qw at h
 split at h
 ·next e=>obtain⟨d,op,ty,pos,aft,g⟩:=o;simp only at e;subst e;exact oG h
 ·next e=>obtain⟨d,op,ty,pos,aft,g⟩:=o;simp only at e;subst e;exact jf h
 ·next e=>obtain⟨d,op,ty,pos,aft,g⟩:=o;simp only at e;subst e;exact pz h
 ·exact vm h
end
def StoreP (off n kk:Nat)(xs:List (List D))(ds:List D)(K:List (List D)→Prop):Prop:=∃j l cs,off=j*kk+l∧xs[j]?=some cs∧l+n≤cs.length∧ds.length=n∧K (xs.set j (bF cs l ds))
theorem StoreP.of {off n kk:Nat}{xs:List (List D)}{ds:List D}{K:List (List D)→Prop}(j l:Nat)(cs:List D)(h:off=j*kk+l)(h1:xs[j]?=some cs)(h2:l+n≤cs.length)(h3:ds.length=n)(k:K (xs.set j (bF cs l ds))):
 StoreP off n kk xs ds K:=⟨j,l,cs,h,h1,h2,h3,k⟩
def Bd (P:Program)(e:TypeId):Bool:=match und P e with
 |some (.struct ⟨[f,_]⟩)=>(match und P f.type with
  |some (.pointer e')=>Nat.beq e' e
  |_=>false)
 |_=>false
def eff (X:Cx)(o:Oper)(t:T)(σ:Sg)(K:T→Sg→Prop):Prop:=match o.op,o.dst with
 |.box _ x,some i=>(match ge t x with
  |some av=>(match b7 av&&ao i t σ X.pin&&!(az av).any (aP i)&&dOk (some i) X.N with
   |true=>K ((i,.box i 0)::t) ((i,.cells (az av))::σ)
   |false=>OpJ X o t σ K)
  |none=>OpJ X o t σ K)
 |.alloc e,some i=>(match db X.P e with
  |some z=>(match b7 (bb z)&&ao i t σ X.pin&&!(az (bb z)).any (aP i)&&dOk (some i) X.N&&!Bd X.P e with
   |true=>K ((i,.box i 0)::t) ((i,.cells (az (bb z)))::σ)
   |false=>OpJ X o t σ K)
  |none=>OpJ X o t σ K)
 |.store e x y,none=>(match fm X.P e,ge t x,ge t y with
  |some n,some (.box i off),some v=>(match af i σ with
   |some (.cells cs)=>(match b7 v&&fb (az v)&&Nat.beq (az v).length n&&Nat.ble (off+n) cs.length with
    |true=>ug (off+n) (xT cs off (az v)) fun cs'=>K t ((i,.cells cs')::σ)
    |false=>OpJ X o t σ K)
   |_=>OpJ X o t σ K)
  |some n,some (.boxX i off),some v=>(match af i σ with
   |some (.cells cs)=>(match b7 v&&fb (az v)&&Nat.beq (az v).length n with
    |true=>Req (off+n≤cs.length) (K t ((i,.cells (bF cs off (az v)))::σ))
    |false=>OpJ X o t σ K)
   |some (.arr kk xs)=>(match b7 v,eN (az v)with
    |true,some ds=>StoreP off n kk xs ds fun ys=>K t ((i,.arr kk ys)::σ)
    |_,_=>OpJ X o t σ K)
   |_=>OpJ X o t σ K)
  |_,_,_=>OpJ X o t σ K)
 |.call ⟨.builtin .append,⟨[x,y]⟩,⟨[st,xt]⟩⟩,d=>Ah X d x y st xt t σ K (OpJ X o t σ K)
 |.mapUpdate mt x y z,d=>li X d mt x y z t σ K (OpJ X o t σ K)
 |.insert mt x y z,d=>li X d mt x y z t σ K (OpJ X o t σ K)
 |.makeMap mt none,some i=>mH X i mt t σ K (OpJ X o t σ K)
 |_,d=>qw X o t σ (fun V=>match dOk d X.N with|true=>K (putT d V t) σ|false=>False) (OpJ X o t σ K)
theorem fF {X:Cx}{o:Oper}{t:T}{σ:Sg}{K:T→Sg→Prop}(h:eff X o t σ K):OpJ X o t σ K:=by
 obtain⟨d,op,ty,pos,aft,g⟩:=o
 unfold eff at h
 simp only at h
 split at h
 ·split at h
  ·next av hx=>
   split at h
   ·next hb=>
    simp only[Bool.and_eq_true,Bool.not_eq_true']at hb
    exact O.box hb.2 hx hb.1.1.1 hb.1.1.2 hb.1.2 h
   ·exact h
  ·exact h
 ·split at h
  ·next z hz=>
   split at h
   ·next hb=>
    simp only[Bool.and_eq_true,Bool.not_eq_true']at hb
    exact O.alloc hb.1.2 (bx hz) hb.1.1.1.1 hb.1.1.1.2 hb.1.1.2 h
   ·exact h
  ·exact h
 ·split at h
  ·next n i off v hs hx hy=>
   split at h
   ·next cs hi=>
    split at h
    ·next hb=>
     simp only[Bool.and_eq_true,Nat.ble_eq,Nat.beq_eq]at hb
     rw[lh,oA]at h
     exact O.store hx rfl hy hi hb.1.1.1 hb.1.1.2 (aK hs) hb.1.2 hb.2 rfl h
    ·exact h
   ·exact h
  ·next n i off v hs hx hy=>
   split at h
   ·next cs hi=>
    split at h
    ·next hb=>
     simp only[Bool.and_eq_true,Nat.beq_eq]at hb
     exact O.store hx rfl hy hi hb.1.1 hb.1.2 (aK hs) hb.2 h.1 rfl h.2
    ·exact h
   ·next kk xs hi=>
    split at h
    ·next ds h1 hd=>
     obtain⟨j,l,cs,h2,h3,h4,h5,h⟩:=h
     exact w5 hx rfl hy hi h1 hd h2 h3 (aK hs) h5 h4 h
    ·exact h
   ·exact h
  ·exact h
 ·exact rJ h
 ·exact kL (fun _=>rfl) (by simp) h
 ·exact kL (fun _=>rfl) (by simp) h
 ·exact mG h
 ·rcases je h with⟨V,hq,hk⟩|h
  ·split at hk
   ·next hN=>exact OpJ.quiet hq hN hk
   ·exact hk.elim
  ·exact h
def grd (b0:Bool)(b:Bool)(d:Nat)(t:T)(yes no:T→Prop):Prop:=match b0 with
 |true=>Spl b (yes ((d,.d (.v (.bool true)))::t)) (no ((d,.d (.v (.bool false)))::t))
 |false=>Spl b (no ((d,.d (.v (.bool true)))::t)) (yes ((d,.d (.v (.bool false)))::t))
def n4 (all:Array Oper)(j:Nat):Option Nat:=match all[j]? with
 |some o=>o.dst
 |none=>none
theorem jB (all:Array Oper)(j:Nat):((all[j]?).bind (·.dst))=n4 all j:=by
 unfold n4;cases all[j]?<;>rfl
def vL (X:Cx)(all:Array Oper):List Oper→T→Sg→(T→Sg→Prop)→Prop
 |[],t,σ,Q=>Q t σ
 |o::al,t,σ,Q=>match o.guard with
  |none=>eff X o t σ fun t σ=>vL X all al t σ Q
  |some (j,b0)=>match n4 all j,dOk o.dst X.N with
   |some d,true=>(match af d t with
    |some (.d (.v (.bool b)))=>grd b0 b d t (fun t=>eff X o t σ fun t σ=>vL X all al t σ Q) (fun t=>vL X all al (putT o.dst (.tup []) t) σ Q)
    |some (.tup [])=>vL X all al (putT o.dst (.tup []) t) σ Q
    |_=>False)
   |_,_=>False
theorem LJ.wk {X:Cx}{all:Array Oper}{k:Nat}{al:List Oper}{t t':T}{σ:Sg}{Q:T→Sg→Prop}(hw:Wk t' t)(h:LJ X all k al t' σ Q):LJ X all k al t σ Q:=LJ.shift (SJ.wk hw (Wk.refl _)) h
theorem fj {X:Cx}{all:Array Oper}{Q:T→Sg→Prop}:∀(al:List Oper)(k:Nat)(t:T)(σ:Sg),vL X all al t σ Q→LJ X all k al t σ Q
 |[],k,t,σ,h=>LJ.done h
 |o::al,k,t,σ,h=>by
  unfold vL at h
  split at h
  ·next hg=>exact LJ.op hg ((fF h).mono fun t σ h=>fj al (k+1) t σ h)
  ·next j b0 hg=>
   split at h
   ·next d hd hN=>
    have hd':((all[j]?).bind (·.dst))=some d:=by rw[jB];exact hd
    split at h
    ·next b hb=>
     have yes:∀c,b=c→eff X o ((d,.d (.v (.bool c)))::t) σ (fun t σ=>vL X all al t σ Q)→c=b0→LJ X all k (o::al) t σ Q:=fun c hc he hcb=>by
      subst hc;subst hcb
      refine LJ.wk (Wk.cons hb (Wk.refl t)) (LJ.guard hg hd' hN ?_)
      rw[ae,if_pos rfl]
      exact⟨fun _=>(fF he).mono fun t σ h=>fj al (k+1) t σ h,fun hne=>absurd rfl hne⟩
     have no:∀c,b=c→vL X all al (putT o.dst (.tup []) ((d,.d (.v (.bool c)))::t)) σ Q→c≠b0→LJ X all k (o::al) t σ Q:=fun c hc he hcb=>by
      subst hc
      refine LJ.wk (Wk.cons hb (Wk.refl t)) (LJ.guard hg hd' hN ?_)
      rw[ae,if_pos rfl]
      exact⟨fun e=>absurd e hcb,fun _=>fj al (k+1) _ σ he⟩
     cases b0 with
     |true=>cases b with
      |true=>exact yes true rfl (h.1 rfl) rfl
      |false=>exact no false rfl (h.2 rfl) (by simp)
     |false=>cases b with
      |true=>exact no true rfl (h.1 rfl) (by simp)
      |false=>exact yes false rfl (h.2 rfl) rfl
    ·next hb=>
     refine LJ.guard hg hd' hN ?_
     rw[hb]
     exact fj al (k+1) _ σ h
    ·exact h.elim
   ·exact h.elim
def sZ (X:Cx)(o:Oper)(t:T):Option (List AV):=match o.op with
 |.alloc e=>(match db X.P e with
  |some z=>(match b7 (bb z)with|true=>some (az (bb z))|false=>none)
  |none=>none)
 |.box _ x=>(match ge t x with
  |some av=>(match b7 av with|true=>some (az av)|false=>none)
  |none=>none)
 |_=>none
theorem kP {X:Cx}{o:Oper}{t:T}{cs:List AV}(h:sZ X o t=some cs):NewJ X o t cs:=by
 obtain⟨d,op,ty,pos,aft,g⟩:=o
 unfold sZ at h
 simp only at h
 split at h
 ·next e=>
  split at h
  ·next z hz=>
   split at h
   ·next h1=>
    cases h
    intro γ H a w so
    obtain⟨us,hu,hl,hr⟩:=ci (bJ γ H z) h1
    refine⟨us,e,?_,hl,hr⟩
    rw[aD (by simp)]
    simp[execOp,Instr.alloc,newVar,newRow,hu,bx hz]
   ·cases h
  ·cases h
 ·next e x=>
  split at h
  ·next av hx=>
   split at h
   ·next h1=>
    cases h
    intro γ H a w so
    obtain⟨us,hu,hl,hr⟩:=ci (so x (by simp[Op.operands]) _ hx) h1
    refine⟨us,e,?_,hl,hr⟩
    rw[aD (by simp)]
    simp[execOp,Instr.box,newVar,newRow,hu]
   ·cases h
  ·cases h
 ·cases h
inductive QuietP (X:Cx)(o:Oper)(t:T)(σ:Sg)(K:AV→Prop)(K2:Nat→AV→Ent→Prop):Prop where
 |of {V:AV} (h:QJ X o t σ V) (k:K V):QuietP X o t σ K K2
 |born {id:Nat} {V:AV} {e:Ent} (h:BirthJ X o t σ id V e) (k:K2 id V e):QuietP X o t σ K K2
def pn (X:Cx)(o:Oper)(t:T)(σ bs:Sg)(K:T→Sg→Prop):Prop:=match sZ X o t,o.dst,o.guard with
 |some cs,some id,none=>(match ao id t (bs++σ) X.pin&&!cs.any (aP id)&&dOk (some id) X.N&&bs.all (fun p=>!aI p.1 (.cells cs))with
  |true=>K ((id,.box id 0)::t) ((id,.cells cs)::bs)
  |false=>False)
 |_,d,gd=>qw X o t σ (fun V=>match dOk d X.N&&bs.all (fun p=>!aP p.1 V)with|true=>K (putT d V t) bs|false=>False)
  (QuietP X o t σ (fun V=>match dOk d X.N&&bs.all (fun p=>!aP p.1 V)with|true=>K (putT d V t) bs|false=>False)
   fun id V e=>match d,gd with
    |some id',none=>(match Nat.beq id id'&&ao id t (bs++σ) X.pin&&dOk (some id) X.N&&bs.all (fun p=>!aI p.1 e)&&bs.all (fun p=>!aP p.1 V)with
     |true=>K ((id,V)::t) ((id,e)::bs)
     |false=>False)
    |_,_=>False)
def vB (X:Cx)(all:Array Oper)(σ:Sg)(Q:T→Sg→Prop):List Oper→T→Sg→Prop
 |[],t,bs=>Q t (bs++σ)
 |o::al,t,bs=>match o.guard with
  |none=>pn X o t σ bs fun t bs=>vB X all σ Q al t bs
  |some (j,b0)=>match n4 all j,dOk o.dst X.N with
   |some d,true=>(match af d t with
    |some (.d (.v (.bool b)))=>grd b0 b d t (fun t=>pn X o t σ bs fun t bs=>vB X all σ Q al t bs) (fun t=>vB X all σ Q al (putT o.dst (.tup []) t) bs)
    |some (.tup [])=>vB X all σ Q al (putT o.dst (.tup []) t) bs
    |_=>False)
   |_,_=>False
theorem CB.wk {X:Cx}{all:Array Oper}{σ:Sg}{Q:T→Sg→Prop}:∀(al:List Oper)(t t':T)(bs:Sg),Wk t' t→(∀p,p∈t→p∈t')→CB X all σ Q al t' bs→CB X all σ Q al t bs
 |[],t,t',bs,hw,_,⟨t'',h1,h2⟩=>⟨t'',h1.trans hw,h2⟩
 |o::al,t,t',bs,hw,hm,h=>by
  rcases h with⟨V,h1,h2,h3,h4⟩|⟨id,V,e,hd,hg,hn,hN,hf,hb,hv,h4⟩
  ·refine .inl ⟨V,h1.wk hw,h2,h3,CB.wk al _ _ bs hw.put (fun p hp=>?_) h4⟩
   cases ho:o.dst with
   |none=>rw[ho]at hp;exact hm p hp
   |some d=>
    rw[ho]at hp
    rcases List.mem_cons.1 hp with h|h
    ·exact List.mem_cons.2 (.inl h)
    ·exact List.mem_cons.2 (.inr (hm p h))
  ·refine .inr ⟨id,V,e,hd,hg,hn.wk hw,hN,kI hf hm,hb,hv,CB.wk al _ _ _ (fun i a hi=>?_) (fun p hp=>?_) h4⟩
   ·rw[ae]at hi ⊢
    split
    ·next e=>rw[if_pos e]at hi;exact hi
    ·next e=>rw[if_neg e]at hi;exact hw i a hi
   ·rcases List.mem_cons.1 hp with h|h
    ·exact List.mem_cons.2 (.inl h)
    ·exact List.mem_cons.2 (.inr (hm p h))
theorem kB {X:Cx}{all:Array Oper}{o:Oper}{t:T}{σ bs:Sg}{al:List Oper}{Q:T→Sg→Prop}{K:T→Sg→Prop}(hK:∀t bs,K t bs→CB X all σ Q al t bs)
 (hg:o.guard=none∨∃j b d,o.guard=some (j,b)∧((all[j]?).bind (·.dst))=some d∧af d t=some (.d (.v (.bool b))))(h:pn X o t σ bs K):CB X all σ Q (o::al) t bs:=by
 have fin:∀V,QJ X o t σ V→(match dOk o.dst X.N&&bs.all (fun p=>!aP p.1 V)with|true=>K (putT o.dst V t) bs|false=>False)→CB X all σ Q (o::al) t bs:=fun V hq hk=>by
  split at hk
  ·next hb=>
   simp only[Bool.and_eq_true]at hb
   rcases hg with hg|⟨j,b,d,h1,h2,h3⟩
   ·exact CB.q hg hq hb.1 hb.2 (hK _ _ hk)
   ·exact Bz h1 h2 h3 hq hb.1 hb.2 (hK _ _ hk)
  ·exact hk.elim
 unfold pn at h
 split at h
 ·next cs id hb hd hg0=>
  split at h
  ·next hx=>
   simp only[Bool.and_eq_true,Bool.not_eq_true']at hx
   exact CB.born hd hg0 (kP hb) hx.1.1.2 hx.1.2 hx.1.1.1 hx.2 (hK _ _ h)
  ·exact h.elim
 ·rcases je h with⟨V,hq,hk⟩|h
  ·exact fin V hq hk
  ·cases h with
   |of hq hk=>exact fin _ hq hk
   |born hb hk=>
    split at hk
    ·next id' hd hg0=>
     split at hk
     ·next hx=>
      simp only[Bool.and_eq_true]at hx
      obtain rfl:=Nat.eq_of_beq_eq_true hx.1.1.1.1
      exact CB.birth hd hg0 hb hx.1.1.2 hx.1.1.1.2 hx.1.2 hx.2 (hK _ _ hk)
     ·exact hk.elim
    ·exact hk.elim
theorem eh {X:Cx}{all:Array Oper}{σ:Sg}{Q:T→Sg→Prop}:∀(al:List Oper)(t:T)(bs:Sg),vB X all σ Q al t bs→CB X all σ Q al t bs
 |[],t,bs,h=>CB.done h
 |o::al,t,bs,h=>by
  unfold vB at h
  split at h
  ·next hg=>exact kB (fun t bs h=>eh al t bs h) (.inl hg) h
  ·next j b0 hg=>
   split at h
   ·next d hd hN=>
    have hd':((all[j]?).bind (·.dst))=some d:=by rw[jB];exact hd
    split at h
    ·next b hb=>
     have yes:∀c,b=c→pn X o ((d,.d (.v (.bool c)))::t) σ bs (fun t bs=>vB X all σ Q al t bs)→c=b0→CB X all σ Q (o::al) t bs:=fun c hc he hcb=>by
      subst hc;subst hcb
      exact CB.wk _ _ _ _ (Wk.cons hb (Wk.refl t)) (fun p hp=>List.mem_cons.2 (.inr hp)) (kB (fun t bs h=>eh al t bs h) (.inr ⟨j,b,d,hg,hd',by rw[ae,if_pos rfl]⟩) he)
     have no:∀c,b=c→vB X all σ Q al (putT o.dst (.tup []) ((d,.d (.v (.bool c)))::t)) bs→c≠b0→CB X all σ Q (o::al) t bs:=fun c hc he hcb=>by
      subst hc
      exact CB.wk _ _ _ _ (Wk.cons hb (Wk.refl t)) (fun p hp=>List.mem_cons.2 (.inr hp)) (CB.no hg hd' (by rw[ae,if_pos rfl]) (by cases b<;>cases b0<;>simp_all) hN (eh al _ bs he))
     cases b0 with
     |true=>cases b with
      |true=>exact yes true rfl (h.1 rfl) rfl
      |false=>exact no false rfl (h.2 rfl) (by simp)
     |false=>cases b with
      |true=>exact no true rfl (h.1 rfl) (by simp)
      |false=>exact yes false rfl (h.2 rfl) rfl
    ·next hb=>exact AT hg hd' hb hN (eh al _ bs h)
    ·exact h.elim
   ·exact h.elim
def zZ:Op→Bool
 |.store _ _ _|.mapUpdate _ _ _ _|.mapEntry _ _ _|.entryStore _ _ _ _|.insert _ _ _ _|.next _ _|.makeMap _ _=>true
 |.call ⟨.builtin .append,_,_⟩|.call ⟨.builtin .copy,_,_⟩|.call ⟨.builtin .delete,_,_⟩=>true
 |.call ⟨.value (.tmp _),_,_⟩=>true
 |_=>false
def fa:List Oper→Nat
 |[]=>0
 |o::r=>match zZ o.op with
  |true=>0
  |false=>fa r+1
def wy (ops:Array Oper):Bool:=mQ ops (fa ops.toList)&&Nat.ble (fa ops.toList) ops.size
def sd:List Oper→List Oper
 |[]=>[]
 |o::r=>match zZ o.op with
  |true=>[]
  |false=>o::sd r
def qa:List Oper→List Oper
 |[]=>[]
 |o::r=>match zZ o.op with
  |true=>o::r
  |false=>qa r
theorem pj:∀l:List Oper,sd l=l.take (fa l)
 |[]=>rfl
 |o::r=>by
  unfold sd fa
  split
  ·rfl
  ·rw[pj r];rfl
theorem p9:∀l:List Oper,qa l=l.drop (fa l)
 |[]=>rfl
 |o::r=>by
  unfold qa fa
  split
  ·rfl
  ·rw[p9 r];rfl
def RegP (X:Cx)(id:Nat)(ops:Array Oper)(t:T)(σ:Sg)(Q:T→Sg→Prop):Prop:=∀Q':Qt,(∀t σ,Q t σ→Q' .normal t σ)→WJ X (.region id ops true) t σ Q'
theorem RegP.of {X:Cx}{id:Nat}{ops:Array Oper}{t:T}{σ:Sg}{Q:T→Sg→Prop}(hm:X.P.follows .mixedOrders=true)(hc:wy ops=true)
 (h:vB X ops σ (fun t σ=>vL X ops (qa ops.toList) t σ Q) (sd ops.toList) t []):RegP X id ops t σ Q:=by
 intro Q' hQ
 simp only[wy,Bool.and_eq_true,Nat.ble_eq]at hc
 refine wT (fa ops.toList) hm hc.1 hc.2 ?_
 rw[←pj]
 have h':=eh _ _ _ h
 have mono:∀(al:List Oper)(t:T)(bs:Sg),CB X ops σ (fun t σ=>vL X ops (qa ops.toList) t σ Q) al t bs→CB X ops σ (fun t σ=>LJ X ops (fa ops.toList) (ops.toList.drop (fa ops.toList)) t σ (Q' .normal)) al t bs:=by
  intro al
  induction al with
  |nil=>
   rintro t bs ⟨t',h1,h2⟩
   refine⟨t',h1,?_⟩
   rw[←p9]
   exact(fj _ _ _ _ h2).mono hQ
  |cons o r ih=>
   intro t bs h
   rcases h with⟨V,h1,h2,h3,h4⟩|⟨id,V,e,hd,hg,hn,hN,hf,hb,hv,h4⟩
   ·exact .inl ⟨V,h1,h2,h3,ih _ _ h4⟩
   ·exact .inr ⟨id,V,e,hd,hg,hn,hN,hf,hb,hv,ih _ _ h4⟩
 exact mono _ _ _ h'
def vc (X:Cx):Code→T→Sg→Qt→Prop
 |.skip,t,σ,Q=>Q .normal t σ
 |.label _,t,σ,Q=>Q .normal t σ
 |.seq a b,t,σ,Q=>vc X a t σ fun e t σ=>match e with
  |.normal=>vc X b t σ Q
  |e=>Q e t σ
 |.cond c a b,t,σ,Q=>(match ge t c with
  |some (.d (.v (.bool x)))=>Spl x (vc X a t σ Q) (vc X b t σ Q)
  |_=>False)
 |.block id c,t,σ,Q=>vc X c t σ fun e t σ=>match e with
  |.exit id'=>(match Nat.beq id' id with
   |true=>Q .normal t σ
   |false=>Q (.exit id') t σ)
  |e=>Q e t σ
 |.region _ ops false,t,σ,Q=>vL X ops ops.toList t σ (Q .normal)
 |.region id ops true,t,σ,Q=>RegP X id ops t σ (Q .normal)
 |.exit id,t,σ,Q=>Q (.exit id) t σ
 |.goto l,t,σ,Q=>Q (.goto l) t σ
 |.ret,t,σ,Q=>Q .ret t σ
 |c,t,σ,Q=>WJ X c t σ Q
theorem ay {X:Cx}:∀(c:Code)(t:T)(σ:Sg)(Q:Qt),vc X c t σ Q→WJ X c t σ Q
 |.skip,t,σ,Q,h=>WJ.skip h
 |.label l,t,σ,Q,h=>fun γ H _ _ s=>wpIn_label ⟨γ,H,t,σ,s,h⟩
 |.seq a b,t,σ,Q,h=>WJ.seq ((ay a t σ _ h).mono fun e t σ q=>by
  cases e<;>first|exact ay b t σ Q q|exact q)
 |.cond c a b,t,σ,Q,h=>by
  unfold vc at h
  split at h
  ·next x hx=>
   intro γ H ac w s
   exact wpIn_cond_split (t:=x) (aR (aL s.tmp hx)) (fun e=>ay a t σ Q (h.1 e) γ H ac w s) (fun e=>ay b t σ Q (h.2 e) γ H ac w s)
  ·exact h.elim
 |.block id c,t,σ,Q,h=>WJ.block ((ay c t σ _ h).mono fun e t σ q=>by
  cases e<;>exact q)
 |.region id ops false,t,σ,Q,h=>WJ.region (fj _ 0 t σ h)
 |.region id ops true,t,σ,Q,h=>h Q fun _ _ h=>h
 |.exit id,t,σ,Q,h=>WJ.exit h
 |.goto l,t,σ,Q,h=>WJ.goto h
 |.ret,t,σ,Q,h=>WJ.ret h
 |.loop c,t,σ,Q,h=>h
 |.rangeFunc ..,t,σ,Q,h=>h
 |.scope c,t,σ,Q,h=>h
 |.refuse w,t,σ,Q,h=>h
def zK (X:Cx)(t:T)(σ:Sg):ResultVar→Option AV
 |.tmp i=>af i t
 |.cell i ty=>match af i t with
  |some (.box j off)=>(match af j σ with
   |some (.cells cs)=>(match iq X.P ty,fm X.P ty with
    |some true,some n=>(match Nat.ble (off+n) cs.length with
     |true=>some (.agg ((cs.drop off).take n))
     |false=>none)
    |some false,_=>cs[off]?
    |_,_=>none)
   |_=>none)
  |_=>none
def iA (X:Cx)(t:T)(σ:Sg):List ResultVar→Option (List AV)
 |[]=>some []
 |r::l=>match zK X t σ r with
  |some a=>match iA X t σ l with
   |some zs=>some (a::zs)
   |none=>none
  |none=>none
def FinP (X:Cx)(σ:Sg)(r:AV)(Q:AV→Sg→Prop):Prop:=∃σ' r',PubR σ r σ' r'∧dZ X.pin r' σ'∧Q r' σ'
theorem FinP.open {X:Cx}{σ:Sg}{r:AV}{Q:AV→Sg→Prop}(h:r.open=true)(k:Q r []):FinP X σ r Q:=
 ⟨[],r,.wk (Wk.nil _),⟨(fun j hj=>by rw[fC h]at hj;cases hj),(fun i e hi=>by simp[af]at hi)⟩,k⟩
theorem FinP.of {X:Cx}{σ:Sg}{r:AV}{Q:AV→Sg→Prop}(σ':Sg)(hw:Wk σ' σ)(hc:dZ X.pin r σ')(k:Q r σ'):FinP X σ r Q:=⟨σ',r,.wk hw,hc,k⟩
theorem FinP.view {X:Cx}{σ:Sg}{r r1:AV}{Q:AV→Sg→Prop}(hv:∀γ H u,Rep γ H r u→Rep γ H r1 u)(k:FinP X σ r1 Q):FinP X σ r Q:=
 let⟨σ',r',hp,hc,hq⟩:=k;⟨σ',r',.view hv hp,hc,hq⟩
theorem FinP.pub {X:Cx}{σ:Sg}{r:AV}{Q:AV→Sg→Prop}(i:Nat){e:Ent}{p:Pub}(hi:af i σ=some e)(hp:jg e=some p)(k:FinP X ((i,.gone)::nm i p σ) (qO i p r) Q):FinP X σ r Q:=
 let⟨σ',r',h1,hc,hq⟩:=k;⟨σ',r',.pub i hi hp (fun _ _ _ ok rr=>fN ok rr) h1,hc,hq⟩
theorem FinP.pubA {X:Cx}{σ:Sg}{Q:AV→Sg→Prop}(i:Nat){k n:Nat}{xs:List (List D)}(hi:af i σ=some (.arr k xs))(hn:n≤xs.length)(hm:n≤9223372036854775807)
 (kk:FinP X ((i,.gone)::nm i (.a k xs) σ) (.d (.sl k (xs.take n))) Q):FinP X σ (.arr i k n) Q:=
 let⟨σ',r',h1,hc,hq⟩:=kk;⟨σ',r',.pub i hi rfl (fun γ H u ok rr=>by
  cases rr with
  |arr _ _ _ A h1 hA=>exact .d _ _ (ok n A hn h1 hA hm)) h1,hc,hq⟩
def one:List AV→AV
 |[r]=>r
 |rs=>.tup rs
def zu (X:Cx)(fn:Func)(Q:AV→Sg→Prop):Qt
 |.normal,t,σ=>(match iA X t σ fn.results.toList with
  |some rs=>FinP X σ (one rs) Q
  |none=>False)
 |.ret,t,σ=>(match iA X t σ fn.results.toList with
  |some rs=>FinP X σ (one rs) Q
  |none=>False)
 |_,_,_=>False
end Go.Gv
end
section
namespace Go.Gv
open Go.RowKit
universe u
theorem qT {X:Cx}{γ:Ids}{H:HF}{t:T}{σ:Sg}{a:Act}{w:World}(s:St X γ H t σ a w){rv:ResultVar}{r:AV}(h:zK X t σ rv=some r):
 ∃v,(match rv with
  |.tmp t=>pure (a.tmps.getD t undef)
  |.cell c t=>do loadVar t (←asAddr (a.tmps.getD c undef)):Sem Value).run X.P w=.ok v w∧Rep γ H r v:=by
 cases rv with
 |tmp i=>
  obtain⟨u,hu,hr⟩:=s.tmp i r h
  exact⟨u,by simp[Array.getD_eq_getD_getElem?,hu],hr⟩
 |cell i ty=>
  simp only[zK]at h
  split at h
  ·next j off hi=>
   obtain⟨u,hu,hr⟩:=s.tmp i _ hi
   have hq:=cj rfl hr
   split at h
   ·next cs hj=>
    obtain⟨tt,us,h2,h3,h4⟩:=s.mem.ent j _ hj
    split at h
    ·next n ha hs=>
     split at h
     ·next hb=>
      cases h
      have hle:=Nat.le_of_ble_eq_true hb
      have:=eP (P:=X.P) (w:=w) (b:=(γ j).b) (off:=off) (us:=(us.drop off).take n) (bE ha) (aK hs) (by simp;omega) (fun l hl=>by
       rw[aN h2,List.getElem?_take,if_pos hl,List.getElem?_drop])
      exact⟨_,by simp[Array.getD_eq_getD_getElem?,hu,hq,asAddr,this],oB h3 h4⟩
     ·cases h
    ·next _ ha=>
     have hlt:off<us.length:=by rw[h3];exact(List.getElem?_eq_some_iff.1 h).1
     have hc:w.cell? ⟨(γ j).b,off,none⟩=some us[off]:=by rw[aN h2];simp[hlt]
     exact⟨us[off],by simp[Array.getD_eq_getD_getElem?,hu,hq,asAddr,dD (bE ha) hc],h4 _ r _ h (by simp[hlt])⟩
    ·cases h
   ·cases h
  ·cases h
theorem ja {X:Cx}{γ:Ids}{H:HF}{t:T}{σ:Sg}{a:Act}{w:World}(s:St X γ H t σ a w):∀{l:List ResultVar}{rs:List AV},iA X t σ l=some rs→
 ∃vs:List Value,(l.mapM (fun
  |.tmp t=>pure (a.tmps.getD t undef)
  |.cell c t=>do loadVar t (←asAddr (a.tmps.getD c undef)):ResultVar→Sem Value)).run X.P w=.ok vs w∧vs.length=rs.length∧∀(j:Nat)(x:AV)(u:Value),rs[j]?=some x→vs[j]?=some u→Rep γ H x u
 |[],rs,h=>by
  simp only[iA,Option.some.injEq]at h;subst h
  exact⟨[],by simp,rfl,fun j x u h=>by simp at h⟩
 |r::l,rs,h=>by
  simp only[iA]at h
  split at h
  ·next av hr=>
   split at h
   ·next asz hl=>
    simp only[Option.some.injEq]at h;subst h
    obtain⟨v,hv,rep⟩:=qT s hr
    obtain⟨vs,hvs,hlen,reps⟩:=ja s hl
    refine⟨v::vs,?_,by simp[hlen],fun j x u hx hu=>?_⟩
    ·simp only[List.mapM_cons,Sem.run_bind,hv,Result.andThen_ok,hvs,Sem.run_pure]
    ·cases j with
     |zero=>simp at hx hu;subst hx;subst hu;exact rep
     |succ j=>exact reps j x u (by simpa using hx) (by simpa using hu)
   ·cases h
  ·cases h
theorem lz {X:Cx}{fn:Func}{Q:AV→Sg→Prop}{e:Exit}{t:T}{σ:Sg}(h:zu X fn Q e t σ):Ret X fn Q e t σ:=by
 have key:(match iA X t σ fn.results.toList with
  |some rs=>FinP X σ (one rs) Q
  |none=>False)→∃r σ',wX X fn t σ r σ'∧dZ X.pin r σ'∧Q r σ':=fun h=>by
  split at h
  ·next rs hrs=>
   obtain⟨σ',r',hw,hc,hq⟩:=h
   refine⟨r',σ',fun γ H a w s=>?_,hc,hq⟩
   obtain⟨vs,hvs,hlen,reps⟩:=ja s hrs
   have hm:(fn.results.mapM (fun
    |.tmp t=>pure (a.tmps.getD t undef)
    |.cell c t=>do loadVar t (←asAddr (a.tmps.getD c undef)):ResultVar→Sem Value)).run X.P w=.ok vs.toArray w:=by
    rw[Array.mapM_eq_mapM_toList]
    simp only[Sem.run_map,hvs,Result.andThen_ok]
   have hres:(results fn a.tmps).run X.P w=.ok (if h:vs.toArray.size=1 then vs.toArray[0]else .tuple vs.toArray) w:=by
    unfold results
    simp only[Sem.run_bind]
    refine(congrArg (fun r=>Result.andThen r _) hm).trans ?_
    simp only[Result.andThen_ok,Sem.run_pure]
   suffices hr:Rep γ H (one rs) (if h:vs.toArray.size=1 then vs.toArray[0]else .tuple vs.toArray)by
    obtain⟨H',s',r⟩:=hw.sound s hr
    exact⟨_,γ,H',hres,s',r⟩
   clear hrs hvs hm hres hw hc hq
   match rs,vs,hlen,reps with
   |[],[],_,_=>exact .tup [] [] rfl fun j x u h=>by simp at h
   |[r],[v],_,reps=>exact reps 0 r v rfl rfl
   |r::r'::rs,v::v'::vs,hlen,reps=>
    have:¬((v::v'::vs).toArray.size=1):=by simp
    rw[dif_neg this]
    exact .tup _ _ hlen reps
  ·exact h.elim
 cases e<;>first|exact key h|exact h
theorem ab {Λ:Amb}{P:Program}{f:FuncId}(fn:Func){c:Code}{avs:List AV}{σ:Sg}{Q:AV→Sg→Prop}(hf:P.funcs[f]?=some fn)(hb:fn.body=some c)
 (hl:Nat.ble avs.length fn.ntmps=true)
 (h:∀w H B g0,vc ⟨P,Λ,none,w,H,B,fn.ntmps,eo σ,g0⟩ c (dB 0 avs) σ (zu ⟨P,Λ,none,w,H,B,fn.ntmps,eo σ,g0⟩ fn Q)):Ct Λ P f avs σ Q:=
 qH fn.ntmps hf hb rfl (Nat.le_of_ble_eq_true hl) fun w H B g0=>(ay _ _ _ _ (h w H B g0)).mono fun _ _ _ q=>lz q
def zT:List Oper→List Nat→List Nat
 |[],acc=>acc
 |o::r,acc=>match o.dst with
  |some d=>zT r (d::acc)
  |none=>zT r acc
def cD:Code→List Nat→List Nat
 |.region _ ops _,acc=>zT ops.toList acc
 |.seq a b,acc=>cD a (cD b acc)
 |.cond _ a b,acc=>cD a (cD b acc)
 |.block _ a,acc=>cD a acc
 |.loop a,acc=>cD a acc
 |.scope a,acc=>cD a acc
 |.rangeFunc _ ps a b,acc=>ps.toList++cD a (cD b acc)
 |_,acc=>acc
def pP (i:Nat):List Nat→Bool
 |[]=>false
 |j::r=>match Nat.beq i j with
  |true=>true
  |false=>pP i r
def fz (ws:List Nat):T→T
 |[]=>[]
 |(i,a)::t=>match pP i ws with
  |true=>fz ws t
  |false=>(i,a)::fz (i::ws) t
theorem nI {i j:Nat}{ws:List Nat}:pP i (j::ws)=if i=j then true else pP i ws:=by
 simp only[pP]
 by_cases h:i=j
 ·subst h;simp
 ·have:Nat.beq i j=false:=by rw[←Bool.not_eq_true,Nat.beq_eq];exact h
  simp[this,h]
theorem kb:∀{ws:List Nat}{t:T}{i:Nat},pP i ws=true→af i (fz ws t)=none
 |ws,[],i,_=>rfl
 |ws,(j,a)::t,i,h=>by
  simp only[fz]
  split
  ·exact kb h
  ·next hj=>
   rw[ae]
   have:i≠j:=fun e=>by subst e;rw[h]at hj;cases hj
   rw[if_neg this]
   exact kb (by rw[nI];simp[h])
theorem jp:∀(ws:List Nat)(t:T),Wk (fz ws t) t
 |ws,[],i,b,h=>by simp[fz,af]at h
 |ws,(j,a)::t,i,b,h=>by
  simp only[fz]at h
  rw[ae]
  split at h
  ·next hj=>
   have:i≠j:=fun e=>by
    subst e
    rw[kb hj]at h;cases h
   rw[if_neg this]
   exact jp ws t i b h
  ·rw[ae]at h
   split at h
   ·next e=>rw[if_pos e];exact h
   ·next e=>rw[if_neg e];exact jp (j::ws) t i b h
def Has {α:Type u}:List (Nat×α)→List (Nat×α)→Prop
 |[],_=>True
 |(i,a)::r,l=>af i l=some a∧Has r l
theorem Has.wk {α:Type u}:∀{l' l:List (Nat×α)},Has l' l→Wk l' l
 |[],_,_=>Wk.nil _
 |(_,_)::_,_,h=>Wk.cons h.1 h.2.wk
theorem dK {X:Cx}{c:Code}{t:T}{σ:Sg}{Q:Qt}{V:Type}(T0:V→T)(S0:V→Sg)(μ:V→Nat)(I:V→Prop)(v0:V)(h0:I v0)(ht:Has (T0 v0) t)(hs:Has (S0 v0) σ)
 (round:∀v,I v→vc X c (T0 v++fz (cD c []) t) (S0 v) fun e t' σ'=>match e with
  |.normal=>∃v',I v'∧μ v'<μ v∧Has (T0 v') t'∧Has (fz (cD c []) t) t'∧Has (S0 v') σ'
  |e=>Q e t' σ'):WJ X (.loop c) t σ Q:=by
 refine WJ.loop (fun n t' σ'=>∃v,I v∧n=μ v∧Wk (T0 v++fz (cD c []) t) t'∧Wk (S0 v) σ') (μ v0) ⟨v0,h0,rfl,?_,hs.wk⟩ ?_
 ·intro i x hi
  rw[cO]at hi
  cases hx:af i (T0 v0)with
  |some y=>rw[hx,Option.some_or]at hi;rw[←hi];exact ht.wk i y hx
  |none=>rw[hx]at hi;simp only[Option.none_or]at hi;exact jp _ _ i x hi
 ·rintro n t' σ' ⟨v,hv,rfl,ht',hs'⟩
  refine WJ.wk ht' hs' ((ay _ _ _ _ (round v hv)).mono fun e t'' σ'' q=>?_)
  cases e with
  |normal=>
   obtain⟨v',h1,h2,h3,h4,h5⟩:=q
   refine⟨μ v',h2,v',h1,rfl,fun i x hi=>?_,h5.wk⟩
   rw[cO]at hi
   cases hx:af i (T0 v')with
   |some y=>rw[hx,Option.some_or]at hi;rw[←hi];exact h3.wk i y hx
   |none=>rw[hx]at hi;simp only[Option.none_or]at hi;exact h4.wk i x hi
  |exit id=>exact q
  |goto l=>exact q
  |ret=>exact q
  |panic ch=>exact q
  |outgrown=>exact q
end Go.Gv
end
section
namespace Go.Gv
open Go.RowKit
section
variable {X:Cx} {d:Option Nat} {ty:TypeId} {pos:String} {aft:Array Edge} {g:Option (Nat×Bool)} {t:T} {σ:Sg}
theorem aa {K:T→Sg→Prop}{f:FuncId}{args:Array Operand}{tys:Array TypeId}{avs:List AV}{r:AV}(hc:Ct X.Λ X.P f avs [] (fun q _=>q=r))(hok:eI X.P f)
 (ha:gj t args.toList=some avs)(ho:r.open=true)(hN:dOk d X.N=true)(k:K (putT d r t) σ):OpJ X ⟨d,.call {callee:=.value (.func f),args:=args,argTypes:=tys},ty,pos,aft,g⟩ t σ K:=
 OpJ.quiet (QJ.call hc hok ha ho) hN k
theorem bq {K:T→Sg→Prop}{o:Oper}{V:AV}(h:QJ X o t σ V)(hN:dOk o.dst X.N=true)(k:K (putT o.dst V t) σ):OpJ X o t σ K:=OpJ.quiet h hN k
end
section
variable {X:Cx} {d:Option Nat} {ty:TypeId} {pos:String} {aft:Array Edge} {g:Option (Nat×Bool)} {t:T} {σ:Sg}
def veq:Value→Value→Bool
 |.int _ a,.int _ b=>a==b
 |.bool a,.bool b=>a==b
 |.string a,.string b=>a.toList==b.toList
 |_,_=>false
def dN:List AV→Option (List Value)
 |[]=>some []
 |.d (.v x)::r=>match dN r with
  |some l=>some (x::l)
  |none=>none
 |_::_=>none
theorem eg {γ:Ids}{H:HF}:∀{cs:List AV}{xs us:List Value},dN cs=some xs→us.length=cs.length→(∀(j:Nat)(a:AV)(u:Value),cs[j]?=some a→us[j]?=some u→Rep γ H a u)→us=xs
 |[],xs,us,h,hl,_=>by
  simp only[dN,Option.some.injEq]at h;subst h
  exact List.length_eq_zero_iff.1 hl
 |.d (.v x)::r,xs,u::us,h,hl,hr=>by
  simp only[dN]at h
  split at h
  ·next l hl'=>
   simp only[Option.some.injEq]at h;subst h
   have h8:=aR (hr 0 _ u rfl rfl)
   have h9:=eg (us:=us) hl' (by simpa using hl) fun j a u h1 h2=>hr (j+1) a u (by simpa using h1) (by simpa using h2)
   rw[h8,h9]
  ·cases h
 |_::_,_,[],_,hl,_=>by simp at hl
 |.d (.sl ..)::_,_,_,h,_,_|.d (.ptr ..)::_,_,_,h,_,_|.d (.fn ..)::_,_,_,h,_,_|.d (.ifc ..)::_,_,_,h,_,_|.d (.ifa ..)::_,_,_,h,_,_=>by simp[dN]at h
 |.d (.mp ..)::_,_,_,h,_,_|.full ..::_,_,_,h,_,_|.boxX ..::_,_,_,h,_,_|.box ..::_,_,_,h,_,_|.arr ..::_,_,_,h,_,_|.suf ..::_,_,_,h,_,_|.fnp ..::_,_,_,h,_,_|.agg ..::_,_,_,h,_,_|.tup ..::_,_,_,h,_,_|.mp ..::_,_,_,h,_,_|.junk::_,_,_,h,_,_=>by simp[dN]at h
def sP (P:Program)(xs ys:List Value):List Field→Bool
 |[]=>true
 |f::fs=>(match P.underlying f.type,xs[f.offset]?,ys[f.offset]? with
  |some (.int _),some (.int k _),some (.int k' _)=>decide (k=k')
  |some .bool,some (.bool _),some (.bool _)=>true
  |some .string,some (.string _),some (.string _)=>true
  |_,_,_=>false)&&sP P xs ys fs
def nX (xs ys:List Value):List Field→Bool
 |[]=>true
 |f::fs=>(if f.name= "_" then true else match xs[f.offset]?,ys[f.offset]? with
  |some x,some y=>veq x y
  |_,_=>false)&&nX xs ys fs
theorem ep {P:Program}{e:TypeId}{d:TypeDesc}(h:P.underlying e=some d)(hd:(match d with|.struct _=>true|.array _ _=>true|_=>false)=false)(w:World):(isAgg e).run P w=.ok false w:=by
 simp only[isAgg,Sem.run_bind,run_underlying h,Result.andThen_ok]
 cases d<;>simp_all
theorem fx {P:Program}{e:TypeId}(ha:∀w,(isAgg e).run P w=.ok false w):∀(cs:Array Value)(i:Nat)(v:Value)(w:World),cs[i]?=some v→(part e cs i).run P w=.ok v w:=by
 intro cs i v w h
 simp[part,ha,h]
theorem jA {P:Program}{w:World}{d:Nat}{xs ys:List Value}:∀(fs:List Field),sP P xs ys fs=true→(Op.eqFields (d+1) xs.toArray ys.toArray fs).run P w=.ok (nX xs ys fs) w
 |[],_=>by simp[Op.eqFields,nX]
 |f::fs,h=>by
  simp only[sP,Bool.and_eq_true]at h
  have ih:=jA fs h.2 (w:=w) (d:=d)
  have one:∃x y,xs[f.offset]?=some x∧ys[f.offset]?=some y∧(part f.type xs.toArray f.offset).run P w=.ok x w∧(part f.type ys.toArray f.offset).run P w=.ok y w∧(Op.equalIn (d+1) f.type x y).run P w=.ok (veq x y) w:=by
   have h1:=h.1
   split at h1
   ·next k' k a k2 b hu hx hy=>
    have:k=k2:=of_decide_eq_true h1
    subst this
    exact⟨_,_,hx,hy,fx (ep hu rfl) _ _ _ w (by simpa using hx),fx (ep hu rfl) _ _ _ w (by simpa using hy),run_equalIn_int w d _ k _ a b hu⟩
   ·next a b hu hx hy=>exact⟨_,_,hx,hy,fx (ep hu rfl) _ _ _ w (by simpa using hx),fx (ep hu rfl) _ _ _ w (by simpa using hy),run_equalIn_bool' w d _ a b hu⟩
   ·next a b hu hx hy=>exact⟨_,_,hx,hy,fx (ep hu rfl) _ _ _ w (by simpa using hx),fx (ep hu rfl) _ _ _ w (by simpa using hy),run_equalIn_string w d _ a b hu⟩
   ·cases h1
  obtain⟨x,y,hx,hy,px,py,pe⟩:=one
  simp only[Op.eqFields,nX,hx,hy]
  by_cases hn:f.name= "_"
  ·simp[hn,ih]
  ·simp only[hn,ne_eq,not_false_eq_true,if_true,if_false,Sem.run_bind,px,py,pe,Result.andThen_ok]
   cases veq x y with
   |true=>simpa using ih
   |false=>simp
theorem Bv {tt yt:TypeId}{x y:Operand}{asz bs:List AV}{xs ys:List Value}{fs:Array Field}{r:Bool}(hx:ge t x=some (.agg asz))(hy:ge t y=some (.agg bs))(hxs:dN asz=some xs)(hys:dN bs=some ys)
 (hu:X.P.underlying tt=some (.struct fs))(hp:X.P.stoodInHeld tt=false)(hg:X.P.eqGuardType X.P.depth tt=false)(hfit:sP X.P xs ys fs.toList=true)(hr:nX xs ys fs.toList=r):
 QJ X ⟨d,.binOp .eql tt x y yt,ty,pos,aft,g⟩ t σ (.d (.v (.bool r))):=
 QJ.value (by simp) (fun γ H a w so sm=>by
  have h1:=so _ (by simp[Op.operands]) _ hx
  have h2:=so _ (by simp[Op.operands]) _ hy
  refine⟨.bool r,?_,.d _ _ (.v _ rfl)⟩
  generalize hq1:a.eval x=q1 at h1
  generalize hq2:a.eval y=q2 at h2
  cases h1 with
  |agg _ us hl1 hr1=>
  cases h2 with
  |agg _ vs hl2 hr2=>
  have e1:=eg hxs hl1 hr1
  have e2:=eg hys hl2 hr2
  subst e1;subst e2
  have hfs:X.P.fieldsOf tt=fs:=by simp[Program.fieldsOf,hu]
  have h3:=run_equalIn_struct (P:=X.P) w 9999 tt us.toArray vs.toArray (by rw[hfs];exact hu) hp
  rw[hfs,jA (d:=9998) _ hfit,hr]at h3
  simp only[execOp,hq1,hq2,Sem.run_bind,run_eql_struct,run_eqGuard_agg w _ _ _ _ _ _ hg,Result.andThen_ok,h3,Sem.run_pure])
def cW:List (List D)→Option (List Int)
 |[]=>some []
 |[.v (.int .u8 n)]::r=>match cW r with
  |some l=>some (n::l)
  |none=>none
 |_::_=>none
theorem eZ:∀{xs:List (List D)}{ns:List Int},cW xs=some ns→ns.length=xs.length∧∀(j:Nat)(n:Int),ns[j]?=some n→xs[j]?=some [.v (.int .u8 n)]
 |[],ns,h=>by simp only[cW,Option.some.injEq]at h;subst h;simp
 |x::r,ns,h=>by
  unfold cW at h
  split at h
  ·next he=>cases he
  ·next n r' he=>
   simp only[List.cons.injEq]at he
   obtain⟨rfl,rfl⟩:=he
   split at h
   ·next l hl=>
    simp only[Option.some.injEq]at h;subst h
    obtain⟨h1,h2⟩:=eZ hl
    refine⟨by simp[h1],fun j m hm=>?_⟩
    cases j with
    |zero=>simp at hm;subst hm;rfl
    |succ j=>simpa using h2 j m (by simpa using hm)
   ·cases h
  ·cases h
def il (ns:List Int):ByteArray:=⟨(ns.map fun n=>UInt8.ofNat n.toNat).toArray⟩
theorem rE (ns:List Int):∀(s:ByteArray),ns.foldl (fun r n=>r.push (UInt8.ofNat n.toNat)) s=⟨s.data++(ns.map fun n=>UInt8.ofNat n.toNat).toArray⟩:=by
 induction ns with
 |nil=>intro s;simp
 |cons n r ih=>
  intro s
  rw[List.foldl_cons,ih]
  apply congrArg ByteArray.mk
  simp[ByteArray.push]
theorem r6 {src dst el:TypeId}{x:Operand}{av:AV}{xs:List (List D)}{ns:List Int}(hx:ge t x=some av)(hel:elems av=some (1,xs))(hb:cW xs=some ns)
 (hs:X.P.underlying src=some (.slice el))(hd:X.P.underlying dst=some .string)(he:X.P.underlying el=some (.int .u8)):
 QJ X ⟨d,.convert src dst x,ty,pos,aft,g⟩ t σ (.d (.v (.string (il ns)))):=
 QJ.value (by simp) (fun γ H a w so sm=>by
  have h1:=cN (so _ (by simp[Op.operands]) _ hx) hel
  refine⟨.string (il ns),?_,.d _ _ (.v _ rfl)⟩
  generalize hq:a.eval x=q at h1
  obtain⟨b1,b2⟩:=eZ hb
  have hq2:∃A n c,q=.slice A n c:=by cases h1;exact⟨_,_,_,rfl⟩
  have hconv:(Conv.bytesToString q).run X.P w=.ok (.string (il ns)) w:=by
   cases h1 with
   |sl _ _ A c b o us hk hn hc hA hH h=>
    cases A with
    |none=>
     have h0:xs=[]:=by
      cases xs with
      |nil=>rfl
      |cons y r=>exact absurd (hA (by simp)) (by simp)
     subst h0
     have:ns=[]:=List.length_eq_zero_iff.1 (by simpa using b1)
     subst this
     simp[Conv.bytesToString,il];rfl
    |some ad=>
     have hload:(loadCells ad xs.length).run X.P w=.ok (ns.map (Value.int .u8)).toArray w:=by
      by_cases h0:xs.length=0
      ·have e0:xs=[]:=List.length_eq_zero_iff.1 h0
       subst e0
       have:ns=[]:=List.length_eq_zero_iff.1 (by simpa using b1)
       subst this
       simp[loadCells,loadCellsFrom]
      ·have hA':=hA (by omega)
       simp only[Option.some.injEq]at hA'
       subst hA'
       have key:=cF (P:=X.P) (w:=w) (b:=b) (vs:=fun j=>.int .u8 (ns.getD j 0)) xs.length o 0 #[] (fun j hj=>by
        have hjn:j<ns.length:=by omega
        have hx1:=b2 j ns[j] (by simp[hjn])
        have h3:=h j 0 _ _ hx1 (by rfl)
        have h4:us j 0=.int .u8 ns[j]:=aR (γ:=γ) (.d _ _ h3)
        have h5:=hH j 0 hj (by omega)
        rw[h4]at h5
        have h6:=sm.hok.c _ _ _ h5
        rw[show o+0+j=o+j*1+0 from by omega,h6,Nat.zero_add,List.getD_eq_getElem?_getD,List.getElem?_eq_getElem hjn];rfl)
       simp only[loadCells]
       rw[key]
       congr 1
       apply Array.toList_inj.1
       simp only[Array.toList_append,List.nil_append,List.toList_toArray]
       apply List.ext_getElem?
       intro j
       by_cases hj:j<ns.length
       ·simp[hj,b1▸hj,List.getElem?_range',List.getD_eq_getElem?_getD]
       ·rw[List.getElem?_eq_none (by simp;omega),List.getElem?_eq_none (by simp;omega)]
     have:=run_bytesToString w ad xs.length c ns hload
     rw[this,rE]
     simp[il]
  obtain⟨A,n,c,rfl⟩:=hq2
  simp only[execOp,hq,convert,Sem.run_bind,run_underlying hs,run_underlying hd,run_underlying he,Result.andThen_ok,hconv,Sem.run_pure])
end
def dU (w:World):HF:=⟨fun b o=>w.cell? ⟨b,o,none⟩,fun b=>match w.heap[b]? with|some (.map es c)=>some (es,c)|_=>none⟩
theorem HOk.le {H:HF}{w:World}(h:HOk H w):HLe H (dU w):=⟨h.c,fun b x hx=>by
 have:=h.m b x.1 x.2 hx
 show(match w.heap[b]? with|some (.map es c)=>some (es,c)|_=>none)=some x
 rw[this]⟩
theorem wG (w:World):HOk (dU w) w:=⟨fun _ _ _ h=>h,fun b es c h=>by
 have h':(match w.heap[b]? with|some (.map es c)=>some (es,c)|_=>none)=some (es,c):=h
 split at h'
 ·next es' c' hb=>simp only[Option.some.injEq,Prod.mk.injEq]at h';obtain⟨rfl,rfl⟩:=h';exact hb
 ·cases h'⟩
inductive View (σ:Sg):AV→AV→Prop where
 |same (a:AV) (h:a.open=true):View σ a a
 |arr (i k n:Nat) (xs:List (List D)) (h:af i σ=some (.arr k xs)) (hn:xs.length=n) (hm:n≤9223372036854775807):View σ (.arr i k n) (.d (.sl k xs))
 |box (i:Nat) (cs:List AV) (ds:List D) (h:af i σ=some (.cells cs)) (hd:eN cs=some ds):View σ (.box i 0) (.d (.ptr ds))
theorem View.sound {σ:Sg}{w0 w:World}{H0 H:HF}{B:Nat→Prop}{γ γ':Ids}(m:Mem w0 H0 B γ H σ w){a b:AV}{u:Value}(v:View σ a b)(r:Rep γ H a u):Rep γ' (dU w) b u:=by
 have hle:HLe H (dU w):=m.hok.le
 cases v with
 |same a h=>exact(r.mono hle).free h
 |arr i k n xs hi hn hm=>
  obtain⟨e1,e2,e3⟩:=m.ent i _ hi
  cases r with
  |arr _ _ _ A hn' hA=>
   refine .d _ _ ?_
   by_cases h0:0<(γ i).n
   ·obtain⟨tt,us,q1,q2,q3⟩:=e3 h0
    have key:=RepD.sl (H:=dU w) k xs A (γ i).n (γ i).b 0 (fun j l=>us.getD (j*k+l) undef) e2 e1 (by omega) (fun _=>hA h0) (fun j l hj hl=>by
     have hlt:j*k+l<us.length:=by
      rw[q2]
      calc j*k+l<j*k+k:=by omega
       _=(j+1)*k:=by rw[Nat.succ_mul]
       _≤(γ i).n*k:=Nat.mul_le_mul_right _ (by omega)
     show w.cell? _=_
     rw[aN q1,Nat.zero_add,List.getD_eq_getElem?_getD,List.getElem?_eq_getElem hlt];rfl) (fun j l cs d hj hd=>by
     have hjl:j<xs.length:=(List.getElem?_eq_some_iff.1 hj).1
     have hlk:l<k:=by rw[←e2 cs (aJ hj)];exact(List.getElem?_eq_some_iff.1 hd).1
     have hlt:j*k+l<us.length:=by
      rw[q2]
      calc j*k+l<j*k+k:=by omega
       _=(j+1)*k:=by rw[Nat.succ_mul]
       _≤(γ i).n*k:=Nat.mul_le_mul_right _ (by omega)
     exact(q3 j l cs d _ hj hd (by rw[List.getD_eq_getElem?_getD,List.getElem?_eq_getElem hlt];rfl)).mono hle)
    rw[hn]at key;exact key
   ·have hxl:xs=[]:=by
     cases xs with
     |nil=>rfl
     |cons x r=>simp only[List.length_cons]at e1;omega
    subst hxl
    have hn0:n=0:=by simpa using hn.symm
    subst hn0
    exact .sl k [] A _ 0 0 (fun _ _=>undef) (fun _ h=>by simp at h) (by simp) (by simp) (fun h=>by simp at h) (fun j i h=>by simp at h) (fun j i cs a h=>by simp at h)
 |box i cs ds hi hd=>
  obtain⟨tt,us,q1,q2,q3⟩:=m.ent i _ hi
  obtain⟨d1,d2⟩:=eB hd
  cases r
  refine .d _ _ (.ptr ds (γ i).b 0 (fun j=>us.getD j undef) (fun j hj=>?_) fun j a ha=>?_)
  ·have hlt:j<us.length:=by omega
   show w.cell? _=_
   rw[aN q1,Nat.zero_add,List.getD_eq_getElem?_getD,List.getElem?_eq_getElem hlt];rfl
  ·obtain⟨x,h1,h2⟩:=d2 j a ha
   have hlt:j<us.length:=by rw[q2];exact(List.getElem?_eq_some_iff.1 h1).1
   exact(ed h2 (q3 j x _ h1 (by rw[List.getD_eq_getElem?_getD,List.getElem?_eq_getElem hlt];rfl))).mono hle
theorem jH (γ:Ids):blks γ []=fun _=>False:=by
 funext b;simp[blks,af]
theorem Mem.quiet {w0 w w':World}{H0 H:HF}{B:Nat→Prop}{γ:Ids}{σ:Sg}(h:Mem w0 H0 B γ H σ w)(k:Keeps w (fun _=>False) w'):Mem w H (fun _=>False) γ H [] w':=
 ⟨k,HLe.refl _,HNew.refl _ _ _,⟨fun b o v hv=>by
  have h1:=h.hok.c b o v hv
  have hlt:=bG h1
  simp only[World.cell?]at h1 ⊢
  rw[k.block b hlt (fun x=>x)];exact h1,fun b es c hv=>by
  have h1:=h.hok.m b es c hv
  exact(k.block b (aA h1) (fun x=>x)).trans h1⟩,fun i e h=>by simp[af]at h,fun i e h=>by simp[af]at h,fun i e h=>by simp[af]at h,fun i e j e' b h=>by simp[af]at h⟩
theorem dM {Λ:Amb}{P:Program}{f:FuncId}{avs:List AV}{V:AV}
 (h:∀(γ:Ids)(H:HF)(w:World)(vs:List Value),Λ.p w→HOk H w→vs.length=avs.length→(∀(j:Nat)(a:AV)(u:Value),avs[j]?=some a→vs[j]?=some u→Rep γ H a u)→Calls P f vs.toArray w fun e w'=>∃v H',e=.returned v∧Rep γ H' V v∧Mem w H (fun _=>False) γ H' [] w'):
 Ct Λ P f avs [] (fun r _=>r=V):=by
 intro ro γ H w vs hΛ hm hlen hr
 have key:CallsIn (Fr none) 0 P f vs.toArray w fun e w'=>∃v r σ' γ' H',e=.returned v∧r=V∧Rep γ' H' r v∧(∀i,af i σ'=none→γ i=γ' i)∧(∀i e,af i ([]:Sg)=some e→e.var=true→γ i=γ' i)∧Mem w H (blks γ []) γ' H' σ' w':=by
  refine callsIn_wide.2 ((h γ H w vs hΛ.1 hm.hok hlen hr).mono fun e w' ⟨v,H',he,hrep,hk⟩=>?_)
  exact⟨v,V,[],γ,H',he,rfl,hrep,fun _ _=>rfl,fun _ _ _ _=>rfl,by rw[jH];exact hk⟩
 cases ro with
 |none=>exact key
 |some l=>exact CallsIn.inRound l key
def dV (xs:List Value):List AV:=xs.map fun x=>.d (.v x)
theorem fO {γ:Ids}{H:HF}{xs vs:List Value}(hl:vs.length=(dV xs).length)(h:∀(j:Nat)(a:AV)(u:Value),(dV xs)[j]?=some a→vs[j]?=some u→Rep γ H a u):vs=xs:=by
 apply List.ext_getElem?
 intro j
 cases hx:xs[j]? with
 |none=>simp[dV]at hl hx;rw[List.getElem?_eq_none];omega
 |some x=>
  have hlt:j<vs.length:=by rw[hl];simp[dV];exact(List.getElem?_eq_some_iff.1 hx).1
  have:=aR (h j (.d (.v x)) vs[j] (by simp[dV,hx]) (by simp[hlt]))
  simp[hlt,this]
theorem bS {Λ:Amb}{P:Program}{f:FuncId}(xs:List Value){V:Value}(h1:V.oneCell'=true)
 (h:∀(w:World),Λ.p w→Calls P f xs.toArray w fun e w'=>e=.returned V∧Keeps w (fun _=>False) w'):Ct Λ P f (dV xs) [] (fun r _=>r=.d (.v V)):=
 dM fun γ H w vs hΛ hok hl hr=>by
  rw[fO hl hr]
  have hm:Mem w H (fun _=>False) γ H [] w:=⟨Keeps.refl _ _,HLe.refl _,HNew.refl _ _ _,hok,fun i e h=>by simp[af]at h,fun i e h=>by simp[af]at h,fun i e h=>by simp[af]at h,fun i e j e' b h=>by simp[af]at h⟩
  exact(h w hΛ).mono fun e w' ⟨he,hk⟩=>⟨V,H,he,.d _ _ (.v V h1),hm.quiet hk⟩
theorem gD {w w':World}(h:Below w.heap.size w w'):Keeps w (fun _=>False) w':=⟨h.os,h.tape,h.output,h.size,fun k hk _=>h.block k hk⟩
theorem Ct.calls {Λ:Amb}{P:Program}{f:FuncId}{avs:List AV}{V:Value}(h:Ct Λ P f avs [] (fun r _=>r=.d (.v V)))(w:World)(hΛ:Λ.p w)(hg:Λ.g≤w.heap.size)(vs:List Value)(hl:vs.length=avs.length)
 (hr:∀(j:Nat)(a:AV)(u:Value),avs[j]?=some a→vs[j]?=some u→Rep (fun _=>⟨0,0,fun _=>False⟩) (dU w) a u):
 Calls P f vs.toArray w fun e w'=>e=.returned V∧Below w.heap.size w w':=by
 have:=h none (fun _=>⟨0,0,fun _=>False⟩) (dU w) w vs ⟨hΛ,hg,by rw[jH];exact fun b h=>h.elim⟩ (by
  rw[jH]
  exact⟨Keeps.refl _ _,HLe.refl _,HNew.refl _ _ _,wG w,fun i e h=>by simp[af]at h,fun i e h=>by simp[af]at h,fun i e h=>by simp[af]at h,fun i e j e' b h=>by simp[af]at h⟩) hl hr
 refine(callsIn_wide.1 this).mono fun e w' ⟨v,r,σ,γ',H',he,hq,hrep,_,_,hm⟩=>?_
 subst hq
 rw[jH]at hm
 cases hrep with
 |d _ _ hd=>cases hd with
  |v _ _=>exact⟨he,hm.keep.below fun _=>id⟩
def zz (P:Program)(g:Nat)(tw:List (String×IntKind×List Int))(hg:∀n,n∈tw→∀i,P.globalNamed n.1=some i→i<g):Amb:=
 ⟨fun w=>∀n,n∈tw→Lib.TabIs P w n.1 n.2.1 n.2.2,g,fun{w w'} h hk n hn=>by
  have h:=h n hn
  obtain⟨i,hi,hm⟩:=Option.bind_eq_some_iff.1 (show World.var? P w n.1=some _ from h)
  show World.var? P w' n.1=some _
  unfold World.var?
  rw[hi]
  simp only[Option.bind_some]
  rw[hk i (hg n hn i hi)];exact hm⟩
end Go.Gv
end
section
namespace Go.Gv
open Go.RowKit Go.ChangeShapes Go.WideShapes
section
variable {H:Type} {enc:TypeId×Value→H} {P:Program} {W:World}
def iO (enc:TypeId×Value→H)(P:Program)(W:World)(e:TypeId)(G:List D→Prop):Prop:=
 ∀(n:Nat)(cs:List Value)(x:DataW H×List MemPlace),DataW.trod enc P W 0 (fun _=>true) true n e cs=some x→
  ∃ds:List D,cs.length=ds.length∧(∀(j:Nat)(a:D)(u:Value),ds[j]?=some a→cs[j]?=some u→RepD (dU W) a u)∧G ds
theorem fU {e:TypeId}{G:List D→Prop}(h:∀n cs x,DataW.trod enc P W 0 (fun _=>true) true n e cs=some x→∃v a,cs=[v]∧RepD (dU W) a v∧G [a]):iO enc P W e G:=by
 intro n cs x hx
 obtain⟨v,a,rfl,hr,hg⟩:=h n cs x hx
 refine⟨[a],rfl,fun j b u h1 h2=>?_,hg⟩
 cases j with
 |zero=>simp at h1 h2;subst h1;subst h2;exact hr
 |succ j=>simp at h1
theorem rj {e:TypeId}{k:IntKind}(he:P.underlying e=some (.int k)):iO enc P W e (fun ds=>∃n,ds=[.v (.int k n)]∧(Lit.int k n).wf=true):=
 fU fun _ _ _ hx=>let⟨m,h1,_,h2⟩:=DataW.trod_int he hx;⟨_,.v (.int k m),h1,.v _ rfl,m,rfl,h2⟩
theorem pG {e:TypeId}(he:P.underlying e=some .bool):iO enc P W e (fun ds=>∃b,ds=[.v (.bool b)]):=
 fU fun _ _ _ hx=>let⟨b,h1,_⟩:=DataW.trod_bool he hx;⟨_,.v (.bool b),h1,.v _ rfl,b,rfl⟩
theorem ri {e:TypeId}(he:P.underlying e=some .string):iO enc P W e (fun ds=>∃s,ds=[.v (.string s)]∧s.size≤maxLen):=
 fU fun _ _ _ hx=>let⟨s,h1,_,h2⟩:=DataW.trod_string he hx;⟨_,.v (.string s),h1,.v _ rfl,s,rfl,h2⟩
theorem qg {α:Type}{n:Nat}{p:Nat→α→Prop}(h:∀i,i<n→∃x,p i x):∃l:List α,l.length=n∧∀i a,l[i]?=some a→p i a:=by
 induction n with
 |zero=>exact⟨[],rfl,fun i a h=>by simp at h⟩
 |succ n ih=>
  obtain⟨l,hl,hp⟩:=ih fun i hi=>h i (by omega)
  obtain⟨x,hx⟩:=h n (by omega)
  refine⟨l++[x],by simp[hl],fun i a hi=>?_⟩
  by_cases hin:i<l.length
  ·rw[List.getElem?_append_left hin]at hi;exact hp i a hi
  ·rw[List.getElem?_append_right (by omega)]at hi
   have:i-l.length=0:=by
    rcases Nat.eq_zero_or_pos (i-l.length)with h0|h0
    ·exact h0
    ·rw[List.getElem?_eq_none (by simp;omega)]at hi;cases hi
   rw[this]at hi
   simp at hi;subst hi
   rwa [show i=n by omega]
theorem nt (a:Addr):a.add 0=a:=by simp[Addr.add]
theorem cells_get {b0:Nat}{a:Addr}{k:Nat}{cs:List Value}(h:W.cells? b0 a k=some cs):cs.length=k∧∀j v,cs[j]?=some v→W.cell? (a.add j)=some v:=by
 obtain⟨_,hl,hc⟩:=World.cells?_some h
 refine⟨hl,fun j v hj=>?_⟩
 have hjk:j<k:=by rw[←hl];exact(List.getElem?_eq_some_iff.1 hj).1
 rw[hc j hjk,hj]
theorem uu {a:Addr}{v:Value}(h:W.cell? a=some v):a.spot=none:=by
 unfold World.cell? at h
 split at h
 ·split at h
  ·cases h
  ·rename_i hs;simpa using hs
 ·cases h
theorem oJ {t e:TypeId}{G:List D→Prop}{k:Nat}(ht:P.underlying t=some (.slice e))(hc:P.cellsOf e=k)(hk:0<k)(el:iO enc P W e G):
 iO enc P W t (fun ds=>∃xs,ds=[.sl k xs]∧∀cs,cs∈xs→G cs):=by
 refine fU fun n cs x hx=>?_
 rcases Go.Deep.open_slice ht hx with⟨rfl,_⟩|⟨a,len,cap,m,n',Df,Pl,rfl,_,hl,hm,hmm,_,hel⟩
 ·exact⟨_,.sl k [],rfl,.sl k [] none 0 0 0 (fun _ _=>.nilIface) (fun _ h=>by simp at h) (Nat.le_refl _) (by simp) (by simp) (fun j i h=>by simp at h) (fun j i cs a h=>by simp at h),[],rfl,fun _ h=>by simp at h⟩
 ·simp only[if_true]at hmm
  subst hmm
  rw[hc]at hel
  have spot:0<len→a=⟨a.block,a.off,none⟩:=by
   intro h0
   obtain⟨cs',h1,h2⟩:=hel 0 (by omega)
   obtain⟨hlen,hcell⟩:=cells_get h1
   have:∃v,cs'[0]?=some v:=by
    have:0<cs'.length:=by omega
    exact⟨cs'[0],by simp[this]⟩
   obtain⟨v,hv⟩:=this
   have:=uu (hcell 0 v hv)
   simp[nt]at this
   cases a;simp_all
  obtain⟨xs,hxl,hxp⟩:=qg (α:=List D×List Value) (n:=len) (p:=fun i y=>y.1.length=k∧y.2.length=k∧(∀j v,y.2[j]?=some v→W.cell? ((a.add (i*k)).add j)=some v)∧
   (∀(j:Nat)(a:D)(u:Value),y.1[j]?=some a→y.2[j]?=some u→RepD (dU W) a u)∧G y.1) fun i hi=>by
   obtain⟨cs',h1,h2⟩:=hel i (by omega)
   obtain⟨hlen,hcell⟩:=cells_get h1
   obtain⟨ds,hd,hr,hg⟩:=el n' cs' _ h2
   exact⟨(ds,cs'),by simp;omega,hlen,hcell,hr,hg⟩
  have get:∀(j:Nat)(ds:List D),(xs.map (·.1))[j]?=some ds→∃y,xs[j]?=some y∧y.1=ds:=by
   intro j ds h
   simp only[List.getElem?_map,Option.map_eq_some_iff]at h
   exact h
  have hxl':(xs.map (·.1)).length=len:=by simp[hxl]
  refine⟨_,.sl k (xs.map (·.1)),rfl,?_,_,rfl,fun ds hds=>?_⟩
  ·have key:=RepD.sl (H:=dU W) k (xs.map (·.1)) (some a) m a.block a.off (fun j i=>((xs.getD j ([],[])).2.getD i .nilIface)) (fun cs hcs=>by
    obtain⟨j,hj⟩:=List.getElem?_of_mem hcs
    obtain⟨y,hy,rfl⟩:=get j cs hj
    exact(hxp j y hy).1) (by rw[hxl'];exact hl) (by rw[hxl'];have:maxLen=9223372036854775807:=rfl;omega) (fun h=>by rw[hxl']at h;rw[←spot h]) (fun j i hj hi=>by
    rw[hxl']at hj
    have hjx:j<xs.length:=by omega
    obtain⟨_,q2,q3,_⟩:=hxp j xs[j] (by simp[hjx])
    have hi':i<(xs[j]).2.length:=by omega
    have:=q3 i (xs[j]).2[i] (by simp[hi'])
    simp only[dU,List.getD,hjx,List.getElem?_eq_getElem,Option.getD_some,hi']
    rw[←this]
    congr 1
    have hs:=spot (by omega)
    rw[Go.Deep.add_add]
    unfold Addr.add
    split
    ·rename_i h0
     have e1:j*k=0:=by omega
     have e2:i=0:=by omega
     rw[e1,e2];exact hs.symm
    ·rw[Nat.add_assoc]) (fun j i ds d hj hd=>by
    obtain⟨y,hy,rfl⟩:=get j ds hj
    obtain⟨q1,q2,_,q4,_⟩:=hxp j y hy
    have hi':i<y.2.length:=by have:=(List.getElem?_eq_some_iff.1 hd).1;omega
    have:(xs.getD j ([],[]))=y:=by simp[List.getD,hy]
    rw[this]
    exact q4 i d _ hd (by simp[List.getD,hi']))
   rw[hxl']at key
   exact key
  ·obtain⟨j,hj⟩:=List.getElem?_of_mem hds
   obtain⟨y,hy,rfl⟩:=get j ds hj
   exact(hxp j y hy).2.2.2.2
inductive Ty where
 |int (k:IntKind)
 |bool
 |str
 |st (fs:List Ty)
 |sl (e:Ty)
def cells:Ty→Nat
 |.st fs=>go fs
 |_=>1
where go:List Ty→Nat
 |[]=>0
 |f::r=>cells f+go r
def Ty.ok:Ty→List D→Prop
 |.int k,ds=>∃n,ds=[.v (.int k n)]∧(Lit.int k n).wf=true
 |.bool,ds=>∃b,ds=[.v (.bool b)]
 |.str,ds=>∃l:List UInt8,ds=[.v (.string ⟨⟨l⟩⟩)]∧l.length≤maxLen
 |.st fs,ds=>okFs fs ds
 |.sl e,ds=>∃xs,ds=[.sl (cells e) xs]∧∀cs,cs∈xs→e.ok cs
where okFs:List Ty→List D→Prop
 |[],ds=>ds=[]
 |f::r,ds=>∃d1 d2,ds=d1++d2∧f.ok d1∧okFs r d2
def Ty.isT (P:Program):Ty→TypeId→Bool
 |.int k,t=>(match P.underlying t with|some (.int k')=>kEq k k'|_=>false)&&Nat.beq (P.cellsOf t) 1
 |.bool,t=>(match P.underlying t with|some .bool=>true|_=>false)&&Nat.beq (P.cellsOf t) 1
 |.str,t=>(match P.underlying t with|some .string=>true|_=>false)&&Nat.beq (P.cellsOf t) 1
 |.st fs,t=>(match P.underlying t with|some (.struct gs)=>isFs P fs gs.toList 0&&Nat.beq (P.cellsOf t) (cells (.st fs))|_=>false)
 |.sl e,t=>(match P.underlying t with|some (.slice u)=>e.isT P u&&Nat.blt 0 (cells e)|_=>false)&&Nat.beq (P.cellsOf t) 1
where isFs (P:Program):List Ty→List Field→Nat→Bool
 |[],[],_=>true
 |f::r,g::s,off=>Nat.beq g.offset off&&f.isT P g.type&&isFs P r s (off+cells f)
 |_,_,_=>false
theorem nN {ty:Ty}{t:TypeId}(h:ty.isT P t=true):P.cellsOf t=cells ty:=by
 cases ty with
 |int k=>simp only[Ty.isT,Bool.and_eq_true,Nat.beq_eq]at h;exact h.2
 |bool=>simp only[Ty.isT,Bool.and_eq_true,Nat.beq_eq]at h;exact h.2
 |str=>simp only[Ty.isT,Bool.and_eq_true,Nat.beq_eq]at h;exact h.2
 |sl e=>simp only[Ty.isT,Bool.and_eq_true,Nat.beq_eq]at h;exact h.2
 |st fs=>
  simp only[Ty.isT]at h
  split at h
  ·simp only[Bool.and_eq_true,Nat.beq_eq]at h;exact h.2
  ·cases h
theorem wK (s:ByteArray):s.data.toList.length=s.size:=rfl
mutual
theorem rh:∀(ty:Ty)(t:TypeId),ty.isT P t=true→iO enc P W t ty.ok
 |.int k,t,hty=>by
  simp only[Ty.isT,Bool.and_eq_true]at hty
  obtain⟨h1,_⟩:=hty
  split at h1
  ·next k' hu=>
   obtain rfl:=mc h1
   exact rj hu
  ·cases h1
 |.bool,t,hty=>by
  simp only[Ty.isT,Bool.and_eq_true]at hty
  obtain⟨h1,_⟩:=hty
  split at h1
  ·next hu=>exact pG hu
  ·cases h1
 |.str,t,hty=>by
  simp only[Ty.isT,Bool.and_eq_true]at hty
  obtain⟨h1,_⟩:=hty
  split at h1
  ·next hu=>
   intro n cs x hx
   obtain⟨ds,e1,e2,s,rfl,hs⟩:=ri hu n cs x hx
   exact⟨_,e1,e2,s.data.toList,rfl,by rw[wK];exact hs⟩
  ·cases h1
 |.sl e,t,hty=>by
  simp only[Ty.isT,Bool.and_eq_true]at hty
  obtain⟨h1,_⟩:=hty
  split at h1
  ·next u hu=>
   simp only[Bool.and_eq_true,Nat.blt_eq]at h1
   exact oJ hu (nN h1.1) h1.2 (rh e u h1.1)
  ·cases h1
 |.st fs,t,hty=>by
  simp only[Ty.isT]at hty
  split at hty
  ·next gs hu=>
   simp only[Bool.and_eq_true,Nat.beq_eq]at hty
   intro n cs x hx
   obtain⟨xs,m,_,_,hl,hsz,hfld⟩:=DataW.trod_struct hu hx
   have hlen:cs.length=cells (.st fs):=by rw[hl];exact hty.2
   obtain⟨ds,e1,e2,e3⟩:=vC fs gs.toList 0 hty.1 m cs (by rw[hlen];simp[cells]) (fun k g hg=>by
    have hg':gs[k]?=some g:=by simpa using hg
    have hk:k<xs.length:=by
     have:=(Array.getElem?_eq_some_iff.1 hg').1
     omega
    have:=hfld k g hg'
    exact⟨xs[k],this.trans (by simp[hk])⟩)
   refine⟨ds,by rw[hlen,e1];rfl,fun j a u ha hu=>e2 j a u ha (by simpa using hu),e3⟩
  ·cases hty
theorem vC:∀(fs:List Ty)(gs:List Field)(off:Nat),Ty.isT.isFs P fs gs off=true→∀(n:Nat)(cs:List Value),off+cells.go fs≤cs.length→
 (∀(k:Nat)(g:Field),gs[k]?=some g→∃y,DataW.trod enc P W 0 (fun _=>true) true n g.type ((cs.drop g.offset).take (P.cellsOf g.type))=some y)→
 ∃ds:List D,ds.length=cells.go fs∧(∀(j:Nat)(a:D)(u:Value),ds[j]?=some a→cs[off+j]?=some u→RepD (dU W) a u)∧Ty.ok.okFs fs ds
 |[],[],off,_,n,cs,_,_=>⟨[],rfl,fun j a u h=>by simp at h,rfl⟩
 |f::r,g::s,off,hty,n,cs,hle,hf=>by
  simp only[Ty.isT.isFs,Bool.and_eq_true,Nat.beq_eq]at hty
  obtain⟨⟨h1,h2⟩,h3⟩:=hty
  simp only[cells.go]at hle
  obtain⟨y,hy⟩:=hf 0 g rfl
  obtain⟨d1,e1,e2,e3⟩:=rh f g.type h2 n _ _ hy
  obtain⟨d2,e4,e5,e6⟩:=vC r s (off+cells f) h3 n cs (by omega) (fun k g' hg=>hf (k+1) g' (by simpa using hg))
  rw[h1,nN h2]at e1 e2
  have hl1:d1.length=cells f:=by
   rw[←e1,List.length_take,List.length_drop];omega
  refine⟨d1++d2,by simp[cells.go,hl1,e4],fun j a u ha hu=>?_,d1,d2,rfl,e3,e6⟩
  by_cases hj:j<d1.length
  ·rw[List.getElem?_append_left hj]at ha
   refine e2 j a u ha ?_
   rw[List.getElem?_take,if_pos (by omega),List.getElem?_drop];exact hu
  ·rw[List.getElem?_append_right (by omega)]at ha
   refine e5 (j-d1.length) a u ha ?_
   rw[hl1,show off+cells f+(j-cells f)=off+j by omega];exact hu
 |[],_::_,off,hty,_,_,_,_=>by simp[Ty.isT.isFs]at hty
 |_::_,[],off,hty,_,_,_,_=>by simp[Ty.isT.isFs]at hty
end
def sM:List D→AV
 |d::_=>.d d
 |[]=>.junk
def Ty.av:Ty→List D→AV
 |.st _,ds=>.agg (ds.map .d)
 |_,ds=>sM ds
theorem su {b0:Nat}{t:TypeId}(ty:Ty){v:Value}{d:DataW H}{ps:List MemPlace}(hty:ty.isT P t=true)(hok:Value.okWide P W .any b0 t v)(h:DataW.Trod enc P W 0 (fun _=>true) true t v d ps):
 ∃ds,ty.ok ds∧∀γ,Rep γ (dU W) (ty.av ds) v:=by
 obtain⟨n,hn⟩:=h
 obtain⟨ds,hl,hr,hG⟩:=rh ty t hty n _ _ hn
 refine⟨ds,hG,fun γ=>?_⟩
 have single:v.cells.toList=[v]→Ty.av ty ds=sM ds→Rep γ (dU W) (ty.av ds) v:=fun hc he=>by
  rw[he]
  rw[hc]at hl hr
  match ds,hl with
  |[a],_=>exact .d _ _ (hr 0 a v rfl rfl)
 cases ty with
 |st fs=>
  simp only[Ty.isT]at hty
  split at hty
  ·next gs hu=>
   obtain⟨cs,rfl,_⟩:=okWide_struct hu hok
   have:=jY (γ:=γ) (H:=dU W) (cs:=ds) (us:=cs.toList) (by simpa[Value.cells]using hl) (fun j a u ha hu=>hr j a u ha (by simpa[Value.cells]using hu))
   simpa[Ty.av]using this
  ·cases hty
 |int k=>
  simp only[Ty.isT,Bool.and_eq_true]at hty
  obtain⟨h1,_⟩:=hty
  split at h1
  ·next hu=>obtain⟨n,rfl⟩:=okWide_int hu hok;exact single rfl rfl
  ·cases h1
 |bool=>
  simp only[Ty.isT,Bool.and_eq_true]at hty
  obtain⟨h1,_⟩:=hty
  split at h1
  ·next hu=>obtain⟨n,rfl⟩:=okWide_bool hu hok;exact single rfl rfl
  ·cases h1
 |str=>
  simp only[Ty.isT,Bool.and_eq_true]at hty
  obtain⟨h1,_⟩:=hty
  split at h1
  ·next hu=>obtain⟨n,rfl⟩:=okWide_string hu hok;exact single rfl rfl
  ·cases h1
 |sl e=>
  simp only[Ty.isT,Bool.and_eq_true]at hty
  obtain⟨h1,_⟩:=hty
  split at h1
  ·next hu=>obtain⟨a,l,c,rfl⟩:=okWide_slice hu hok;exact single rfl rfl
  ·cases h1
theorem va {α:Type}{p:List D→Prop}{enc':α→List D}{q:α→Prop}(h:∀cs,p cs→∃a,cs=enc' a∧q a):∀{xs:List (List D)},(∀cs,cs∈xs→p cs)→∃l:List α,xs=l.map enc'∧∀a,a∈l→q a
 |[],_=>⟨[],rfl,fun _ h=>by simp at h⟩
 |c::r,hx=>by
  obtain⟨a,rfl,ha⟩:=h c (hx c (by simp))
  obtain⟨l,rfl,hl⟩:=va h (xs:=r) fun cs hcs=>hx cs (by simp[hcs])
  exact⟨a::l,rfl,fun b hb=>by rcases List.mem_cons.1 hb with rfl|hb;exact ha;exact hl b hb⟩
end
theorem mU {γ:Ids}{H:HF}:∀(j:Nat)(a:AV)(u:Value),([]:List AV)[j]?=some a→([]:List Value)[j]?=some u→Rep γ H a u:=fun j a u h=>by simp at h
theorem dr {γ:Ids}{H:HF}{avs:List AV}{vs:List Value}{a0:AV}{u0:Value}(h0:Rep γ H a0 u0)(h:∀(j:Nat)(a:AV)(u:Value),avs[j]?=some a→vs[j]?=some u→Rep γ H a u):
 ∀(j:Nat)(a:AV)(u:Value),(a0::avs)[j]?=some a→(u0::vs)[j]?=some u→Rep γ H a u:=by
 intro j a u h1 h2
 cases j with
 |zero=>simp at h1 h2;subst h1;subst h2;exact h0
 |succ j=>exact h j a u (by simpa using h1) (by simpa using h2)
end Go.Gv
end
section
namespace Go.Gv
open Go.RowKit
section
variable {X:Cx} {d:Option Nat} {ty:TypeId} {pos:String} {aft:Array Edge} {g:Option (Nat×Bool)} {t:T} {σ:Sg}
theorem w6 {st e:TypeId}{x:Operand}{lo hi:Option Operand}{n k:Nat}{cs:List D}{l h:Int}(hx:ge t x=some (.d (.ptr cs)))(hu:X.P.underlying st=some (.array n e))(hs:fm X.P e=some k)
 (hl:loV t lo=some l)(hh:hiV t n hi=some h)(h0:0≤l)(h1:l≤h)(h2:h≤(n:Int))(hc:cs.length=n*k)(hn:n≤9223372036854775807){xs:List (List D)}(hv:((fZ k n cs).take h.toNat).drop l.toNat=xs):
 QJ X ⟨d,.slice st x lo hi none,ty,pos,aft,g⟩ t σ (.d (.sl k xs)):=by
 subst hv
 refine QJ.value (by simp) (fun γ H a w so sm=>?_)
 obtain⟨b,o,us,hq,hcc,hr⟩:=ft (fu (so x (by simp[Op.operands]) _ hx))
 have hb:=iI (P:=X.P) (w:=w) (γ:=γ) (H:=H) (a:=a) (isS:=false) hl hh h0 h1 h2 (Nat.le_refl _) (fun y hy v hv=>so y (by
  rcases hy with rfl|rfl<;>simp[Op.operands]) v hv)
 rw[km]
 obtain⟨c1,c2⟩:=n6 (k:=k) (n:=n) (ds:=cs) hc
 have hsl:RepD H (.sl k (eC k n cs)) (.slice (some ⟨b,o,none⟩) (eC k n cs).length n):=by
  refine .sl k _ _ n b o (fun j i=>us (j*k+i)) c2 (by omega) (by omega) (fun _=>rfl) (fun j i hj hi=>?_) (fun j i ds d hj hd=>?_)
  ·rw[c1]at hj
   rw[Nat.add_assoc]
   refine hcc _ ?_
   rw[hc]
   calc j*k+i<j*k+k:=by omega
    _=(j+1)*k:=by rw[Nat.add_mul];omega
    _≤n*k:=Nat.mul_le_mul_right _ (by omega)
  ·obtain⟨_,_,hx⟩:=kl hc hj hd
   exact hr _ d hx
 have hcut:=hsl.cut (l:=l.toNat) (h:=h.toNat) (c':=n) (by omega) (by rw[c1];omega) (by omega) (Nat.le_refl _)
 refine⟨_,?_,.d _ _ hcut⟩
 simp only[execOp,hq,Instr.sliceAt,Instr.sureAddr,Sem.run_bind,run_underlying hu,Result.andThen_ok,hb,aK hs,Sem.run_pure,Option.map_none]
 congr 3
 split<;>rfl
end
def eqT (P:Program):Nat→TypeId→List Value→List Value→Option Bool
 |0,_,_,_=>none
 |n+1,t,xs,ys=>match P.underlying t with
  |some (.struct fs)=>fs.toList.foldr (fun f r=>match eqT P n f.type ((xs.drop f.offset).take (P.cellsOf f.type)) ((ys.drop f.offset).take (P.cellsOf f.type)),r with
   |some b,some r=>some (b&&r)
   |_,_=>none) (some true)
  |some (.int _)=>match xs,ys with
   |[.int k a],[.int k' b]=>match kEq k k' with
    |true=>some (decide (a=b))
    |false=>none
   |_,_=>none
  |some .bool=>match xs,ys with
   |[.bool a],[.bool b]=>some (a==b)
   |_,_=>none
  |some .string=>match xs,ys with
   |[.string a],[.string b]=>some (a.toList==b.toList)
   |_,_=>none
  |_=>none
def oP (P:Program):Nat→TypeId→Bool
 |0,_=>false
 |n+1,t=>match P.underlying t with
  |some (.struct fs)=>!P.stoodInHeld t&&fs.toList.all fun f=>f.name != "_"&&(P.info? f.type).isSome&&oP P n f.type&&(match P.underlying f.type with|some (.struct _)=>true|some (.array ..)=>false|_=>Nat.beq (P.cellsOf f.type) 1)
  |some (.array ..)=>false
  |_=>true
def ny (P:Program)(t:TypeId)(xs:List Value):Value:=match P.underlying t with
 |some (.struct _)=>.agg xs.toArray
 |_=>xs.headD undef
def AH:TypeDesc→Bool
 |.struct _=>true
 |.array _ _=>true
 |_=>false
theorem ry {P:Program}{e:TypeId}{d:TypeDesc}(h:P.underlying e=some d)(hd:AH d=false)(w:World):(isAgg e).run P w=.ok false w:=by
 cases d<;>first|(exact ep h rfl w)|(cases hd)
theorem wu {P:Program}{n:Nat}{t:TypeId}{xs ys:List Value}{r:Bool}(he:eqT P (n+1) t xs ys=some r):
 (∃fs,P.underlying t=some (.struct fs))∨((∃x,xs=[x])∧(∃y,ys=[y])∧∃d,P.underlying t=some d∧AH d=false):=by
 simp only[eqT]at he
 cases hu:P.underlying t with
 |none=>rw[hu]at he;simp at he
 |some d=>
  rw[hu]at he
  cases d with
  |struct fs=>exact .inl ⟨fs,rfl⟩
  |int k=>right;simp only at he;split at he;exact⟨⟨_,rfl⟩,⟨_,rfl⟩,_,rfl,rfl⟩;cases he
  |bool=>right;simp only at he;split at he;exact⟨⟨_,rfl⟩,⟨_,rfl⟩,_,rfl,rfl⟩;cases he
  |string=>right;simp only at he;split at he;exact⟨⟨_,rfl⟩,⟨_,rfl⟩,_,rfl,rfl⟩;cases he
  |_=>simp at he
theorem pE {P:Program}{t:TypeId}{off:Nat}{xs:List Value}{w:World}(hi:(P.info? t).isSome=true)(hc:(match P.underlying t with|some (.struct _)=>true|some (.array ..)=>false|_=>Nat.beq (P.cellsOf t) 1)=true)
 (he:(∃fs,P.underlying t=some (.struct fs))∨((∃x,(xs.drop off).take (P.cellsOf t)=[x])∧∃d,P.underlying t=some d∧AH d=false)):
 (part t xs.toArray off).run P w=.ok (ny P t ((xs.drop off).take (P.cellsOf t))) w:=by
 unfold part ny
 rcases he with⟨fs,hu⟩|⟨⟨x,hx⟩,d,hu,hd⟩
 ·have ha:(isAgg t).run P w=.ok true w:=by simp[isAgg,run_underlying hu]
  rw[hu]
  simp only[Sem.run_bind,ha,Result.andThen_ok,if_true,iV hi,Sem.run_pure]
  congr 2
  apply Array.toList_inj.1
  simp
 ·have ha:=ry hu hd w
  rw[hu]at hc
  have hk:P.cellsOf t=1:=Nat.eq_of_beq_eq_true (by cases d<;>first|exact hc|cases hd)
  rw[hx]
  have hv:xs[off]?=some x:=by
   have:=congrArg (fun l=>l[0]?) hx
   rw[hk]at this
   simpa using this
  have:(match P.underlying t with|some (.struct _)=>Value.agg ([x]:List Value).toArray|_=>([x]:List Value).headD undef)=x:=by rw[hu];cases d<;>first|rfl|cases hd
  rw[this]
  simp[ha,hv]
theorem sO {P:Program}{w:World}:∀(n d:Nat)(t:TypeId)(xs ys:List Value)(r:Bool),oP P n t=true→eqT P n t xs ys=some r→(Op.equalIn (d+n) t (ny P t xs) (ny P t ys)).run P w=.ok r w
 |0,_,_,_,_,_,_,h=>by simp[eqT]at h
 |n+1,d,t,xs,ys,r,ho,h=>by
  simp only[eqT]at h
  cases hu:P.underlying t with
  |none=>rw[hu]at h;simp at h
  |some de=>
   rw[hu]at h
   unfold ny
   rw[hu]
   cases de with
   |struct fs=>
    simp only at h ⊢
    simp only[oP,hu,Bool.and_eq_true,Bool.not_eq_true']at ho
    have hfs:P.fieldsOf t=fs:=by simp[Program.fieldsOf,hu]
    have h3:=run_equalIn_struct (P:=P) w (d+n) t xs.toArray ys.toArray (by rw[hfs];exact hu) ho.1
    rw[←Nat.add_assoc,h3,hfs]
    have key:∀(l:List Field)(r:Bool),(l.all fun f=>f.name != "_"&&(P.info? f.type).isSome&&oP P n f.type&&(match P.underlying f.type with|some (.struct _)=>true|some (.array ..)=>false|_=>Nat.beq (P.cellsOf f.type) 1))=true→
     l.foldr (fun f r=>match eqT P n f.type ((xs.drop f.offset).take (P.cellsOf f.type)) ((ys.drop f.offset).take (P.cellsOf f.type)),r with
      |some b,some r=>some (b&&r)
      |_,_=>none) (some true)=some r→(Op.eqFields (d+n) xs.toArray ys.toArray l).run P w=.ok r w:=by
     intro l
     induction l with
     |nil=>intro r _ h;simp only[List.foldr_nil,Option.some.injEq]at h;subst h;simp[Op.eqFields]
     |cons f l ih=>
      intro r ha h
      simp only[List.all_cons,Bool.and_eq_true]at ha
      obtain⟨⟨⟨⟨a1,a2⟩,a3⟩,a4⟩,a5⟩:=ha
      simp only[List.foldr_cons]at h
      split at h
      ·next b r' hb hr=>
       simp only[Option.some.injEq]at h
       subst h
       cases n with
       |zero=>simp[eqT]at hb
       |succ n=>
        have q:=wu hb
        have p1:=pE (w:=w) (xs:=xs) a2 a4 (q.imp (fun h=>h) fun h=>⟨h.1,h.2.2⟩)
        have p2:=pE (w:=w) (xs:=ys) a2 a4 (q.imp (fun h=>h) fun h=>⟨h.2.1,h.2.2⟩)
        have e1:=sO (w:=w) (n+1) d f.type _ _ b a3 hb
        have i1:=ih r' a5 hr
        have hn:f.name≠ "_":=by simpa using a1
        simp only[Op.eqFields,hn,ne_eq,not_false_eq_true,if_true,Sem.run_bind,p1,p2,Result.andThen_ok,e1]
        cases b with
        |true=>simpa using i1
        |false=>simp
      ·cases h
    exact key _ _ ho.2 h
   |int k=>
    simp only at h ⊢
    split at h
    ·next k1 a k2 b=>
     split at h
     ·next hk=>
      obtain rfl:=mc hk
      simp only[Option.some.injEq]at h;subst h
      show(Op.equalIn (d+n+1) t (.int k1 a) (.int k1 b)).run P w=_
      rw[run_equalIn_int w _ t k1 k a b hu];rfl
     ·cases h
    ·cases h
   |bool=>
    simp only at h ⊢
    split at h
    ·next a b=>
     simp only[Option.some.injEq]at h;subst h
     show(Op.equalIn (d+n+1) t (.bool a) (.bool b)).run P w=_
     rw[run_equalIn_bool' w _ t a b hu]
    ·cases h
   |string=>
    simp only at h ⊢
    split at h
    ·next a b=>
     simp only[Option.some.injEq]at h;subst h
     show(Op.equalIn (d+n+1) t (.string a) (.string b)).run P w=_
     rw[run_equalIn_string w _ t a b hu]
    ·cases h
   |_=>simp at h
section
variable {X:Cx} {d:Option Nat} {ty:TypeId} {pos:String} {aft:Array Edge} {g:Option (Nat×Bool)} {t:T} {σ:Sg}
theorem yF {γ:Ids}{H:HF}{P:Program}{tt:TypeId}{u v:Value}{asz bs:List AV}{xs ys:List Value}{fs:Array Field}{r:Bool}(n:Nat){w:World}(h1:Rep γ H (.agg asz) u)(h2:Rep γ H (.agg bs) v)(hxs:dN asz=some xs)(hys:dN bs=some ys)
 (hu:P.underlying tt=some (.struct fs))(ho:oP P n tt=true)(hn:n≤10000)(hr:eqT P n tt xs ys=some r):
 u=.agg xs.toArray∧v=.agg ys.toArray∧(Op.equalIn 10000 tt (.agg xs.toArray) (.agg ys.toArray)).run P w=.ok r w:=by
 cases h1 with
 |agg _ us hl1 hr1=>
 cases h2 with
 |agg _ vs hl2 hr2=>
 have e1:=eg hxs hl1 hr1
 have e2:=eg hys hl2 hr2
 subst e1;subst e2
 have:=sO (w:=w) n (10000-n) tt us vs r ho hr
 rw[show 10000-n+n=10000 by omega]at this
 simp only[ny,hu]at this
 exact⟨rfl,rfl,this⟩
theorem O.eqT {tt yt:TypeId}{x y:Operand}{asz bs:List AV}{xs ys:List Value}{fs:Array Field}{r:Bool}(n:Nat)(hx:ge t x=some (.agg asz))(hy:ge t y=some (.agg bs))(hxs:dN asz=some xs)(hys:dN bs=some ys)
 (hu:X.P.underlying tt=some (.struct fs))(ho:oP X.P n tt=true)(hg:X.P.eqGuardType X.P.depth tt=false)(hr:Gv.eqT X.P n tt xs ys=some r)(hn:n≤10000:=by decide):
 QJ X ⟨d,.binOp .eql tt x y yt,ty,pos,aft,g⟩ t σ (.d (.v (.bool r))):=
 QJ.value (by simp) (fun γ H a w so sm=>by
  obtain⟨h1,h2,h3⟩:=yF (P:=X.P) n (w:=w) (so _ (by simp[Op.operands]) _ hx) (so _ (by simp[Op.operands]) _ hy) hxs hys hu ho hn hr
  refine⟨.bool r,?_,.d _ _ (.v _ rfl)⟩
  simp only[execOp,h1,h2,Sem.run_bind,run_eql_struct,run_eqGuard_agg w _ _ _ _ _ _ hg,Result.andThen_ok,h3,Sem.run_pure])
end
theorem Mem.start {w:World}{H:HF}(hok:HOk H w)(γ:Ids):Mem w H (fun _=>False) γ H [] w:=
 ⟨Keeps.refl _ _,HLe.refl _,HNew.refl _ _ _,hok,fun i e h=>by simp[af]at h,fun i e h=>by simp[af]at h,fun i e h=>by simp[af]at h,fun i e j e' b h=>by simp[af]at h⟩
theorem mO:∀(ds:List D),fZ 1 ds.length ds=ds.map fun d=>[d]
 |[]=>rfl
 |d::r=>by
  have:=mO r
  simp only[List.length_cons,fZ,List.map_cons]
  simpa using this
abbrev bD (b:UInt8):D:=.v (.int .u8 b.toNat)
theorem kO:∀(l:List UInt8),cW (l.map fun b=>[bD b])=some (l.map fun b=>(b.toNat:Int))
 |[]=>rfl
 |b::r=>by simp[cW,kO r]
theorem tB (l:List UInt8):il (l.map fun b=>(b.toNat:Int))=⟨⟨l⟩⟩:=by
 unfold il
 simp only[List.map_map]
 have:((fun n:Int=>UInt8.ofNat n.toNat)∘fun b:UInt8=>(b.toNat:Int))=id:=by funext b;simp
 rw[this,List.map_id]
theorem qe {α:Type}(f:α→D):∀(l:List α),eN (l.map fun a=>AV.d (f a))=some (l.map f)
 |[]=>rfl
 |a::r=>by simp[eN,dOf,qe f r]
end Go.Gv
end
section
namespace Go.Gv
open Go.RowKit
universe u
def eU {α:Type u}(ws:List Nat):List (Nat×α)→List (Nat×α)
 |[]=>[]
 |(i,a)::t=>match pP i ws with
  |true=>eU ws t
  |false=>(i,a)::eU (i::ws) t
theorem kc {α:Type u}:∀{ws:List Nat}{t:List (Nat×α)}{i:Nat},pP i ws=true→af i (eU ws t)=none
 |ws,[],i,_=>rfl
 |ws,(j,a)::t,i,h=>by
  simp only[eU]
  split
  ·exact kc h
  ·next hj=>
   rw[ae]
   have:i≠j:=fun e=>by subst e;rw[h]at hj;cases hj
   rw[if_neg this]
   exact kc (by rw[nI];simp[h])
theorem jq {α:Type u}:∀(ws:List Nat)(t:List (Nat×α)),Wk (eU ws t) t
 |ws,[],i,b,h=>by simp[eU,af]at h
 |ws,(j,a)::t,i,b,h=>by
  simp only[eU]at h
  rw[ae]
  split at h
  ·next hj=>
   have:i≠j:=fun e=>by
    subst e
    rw[kc hj]at h;cases h
   rw[if_neg this]
   exact jq ws t i b h
  ·rw[ae]at h
   split at h
   ·next e=>rw[if_pos e];exact h
   ·next e=>rw[if_neg e];exact jq (j::ws) t i b h
theorem Wk.app {α:Type u}{a b l:List (Nat×α)}(h:Wk a l)(k:Wk b l):Wk (a++b) l:=fun i x hi=>by
 rw[cO]at hi
 cases hx:af i a with
 |some y=>rw[hx,Option.some_or]at hi;rw[←hi];exact h i y hx
 |none=>rw[hx]at hi;simp only[Option.none_or]at hi;exact k i x hi
theorem ba {X:Cx}{c:Code}{t:T}{σ:Sg}{Q:Qt}{V:Type}(T0:V→T)(S0:V→Sg)(ks:List Nat)(μ:V→Nat)(I:V→Prop)(v0:V)(h0:I v0)(ht:Has (T0 v0) t)(hs:Has (S0 v0) σ)
 (round:∀v,I v→vc X c (T0 v++fz (cD c []) t) (S0 v++eU ks σ) fun e t' σ'=>match e with
  |.normal=>∃v',I v'∧μ v'<μ v∧Has (T0 v') t'∧Has (fz (cD c []) t) t'∧Has (S0 v') σ'∧Has (eU ks σ) σ'
  |e=>Q e t' σ'):WJ X (.loop c) t σ Q:=by
 refine WJ.loop (fun n t' σ'=>∃v,I v∧n=μ v∧Wk (T0 v++fz (cD c []) t) t'∧Wk (S0 v++eU ks σ) σ') (μ v0) ⟨v0,h0,rfl,ht.wk.app (jp _ _),hs.wk.app (jq _ _)⟩ ?_
 rintro n t' σ' ⟨v,hv,rfl,ht',hs'⟩
 refine WJ.wk ht' hs' ((ay _ _ _ _ (round v hv)).mono fun e t'' σ'' q=>?_)
 cases e with
 |normal=>
  obtain⟨v',h1,h2,h3,h4,h5,h6⟩:=q
  exact⟨μ v',h2,v',h1,rfl,h3.wk.app h4.wk,h5.wk.app h6.wk⟩
 |exit id=>exact q
 |goto l=>exact q
 |ret=>exact q
 |panic ch=>exact q
 |outgrown=>exact q
end Go.Gv
end
section
namespace Go.Gv
open Go.RowKit
inductive FnIs:AV→FuncId→List AV→Prop where
 |fnp (f:FuncId) (cs:List AV):FnIs (.fnp f cs) f cs
 |fn (f:FuncId) (ds:List D):FnIs (.d (.fn f ds)) f (ds.map .d)
theorem FnIs.rep {a:AV}{f:FuncId}{caps:List AV}(h:FnIs a f caps){γ:Ids}{H:HF}{u:Value}(r:Rep γ H a u):
 ∃us:List Value,u=.func (.func f) #[] us.toArray∧us.length=caps.length∧∀(j:Nat)(a:AV)(u:Value),caps[j]?=some a→us[j]?=some u→Rep γ H a u:=by
 cases h with
 |fnp f cs=>cases r with
  |fnp _ _ us hl hr=>exact⟨us,rfl,hl,hr⟩
 |fn f ds=>cases fu r with
  |fn _ _ us hl hr=>exact⟨us,rfl,by simp[hl],fun j a u h1 h2=>by
   simp only[List.getElem?_map,Option.map_eq_some_iff]at h1
   obtain⟨x,hx,rfl⟩:=h1
   exact .d _ _ (hr j x u hx h2)⟩
theorem pu {γ:Ids}{H:HF}{as1 bs:List AV}{us vs:List Value}(hl:us.length=as1.length)(h1:∀(j:Nat)(a:AV)(u:Value),as1[j]?=some a→us[j]?=some u→Rep γ H a u)(h2:∀(j:Nat)(a:AV)(u:Value),bs[j]?=some a→vs[j]?=some u→Rep γ H a u):
 ∀(j:Nat)(a:AV)(u:Value),(as1++bs)[j]?=some a→(us++vs)[j]?=some u→Rep γ H a u:=fun j a u ha hu=>by
 by_cases hj:j<as1.length
 ·rw[List.getElem?_append_left hj]at ha
  rw[List.getElem?_append_left (by omega)]at hu
  exact h1 j a u ha hu
 ·rw[List.getElem?_append_right (by omega)]at ha
  rw[List.getElem?_append_right (by omega),hl]at hu
  exact h2 _ a u ha hu
section call
variable {X:Cx} {d:Option Nat} {ty:TypeId} {pos:String} {aft:Array Edge} {g:Option (Nat×Bool)} {t:T} {σ:Sg} {K:T→Sg→Prop}
theorem kn {f:FuncId}{x:Operand}{us:List Value}{args:Array Operand}{tys:Array TypeId}{w:World}{a:Act}(hx:a.eval x=.func (.func f) #[] us.toArray)(hok:eI X.P f):
 (execOp a.eval ⟨d,.call {callee:=.value x,args:=args,argTypes:=tys},ty,pos,aft,g⟩).run X.P w=.ok (.enter f (args.map a.eval++us.toArray)) w:=by
 have:=hok (args.map a.eval++us.toArray) w
 simpa[execOp,resolve,hx,Deferred.ofValue,invoke]using this
theorem OpJ.callT {f:FuncId}{x:Operand}{av:AV}{args:Array Operand}{tys:Array TypeId}{avs caps:List AV}{σL:Sg}{Q:AV→Sg→Prop}(hx:ge t x=some av)(hf:FnIs av f caps)(hc:Ct X.Λ X.P f (avs++caps) σL Q)(hok:eI X.P f)(hN:dOk d X.N=true)
 (ha:gj t args.toList=some avs)(hs:Wk σL σ)(k:∀r σ',Q r σ'→uV σ' σL t σ X.pin=true∧K (putT d r t) (σ'++al σL σ)):
 OpJ X ⟨d,.call {callee:=.value x,args:=args,argTypes:=tys},ty,pos,aft,g⟩ t σ K:=by
 intro γ H a w s next Q' hk
 obtain⟨us,hu,hul,hur⟩:=hf.rep (aL s.tmp hx)
 rw[aD (by simp),kn hu hok,Oper.uponIn_enter]
 refine⟨fun h=>by simp[Fr]at h,?_⟩
 have hal:(args.map a.eval).toList.length=avs.length:=by have:=congrArg List.length (bp ha);simpa using this
 have:=hc X.ro γ H w ((args.map a.eval).toList++us) (s.lamAt σL hs) (s.mem.wk hs).self (by simp only[List.length_append,hal,hul]) (pu hal (by
  have:=eV (γ:=γ) (H:=H) (a:=a) (fun x _ v hv=>aL s.tmp hv) (bp ha)
  simpa using this) hur)
 rw[show((args.map a.eval).toList++us).toArray=args.map a.eval++us.toArray from Array.toList_inj.1 (by simp)]at this
 refine this.mono ?_
 rintro e w' ⟨v,r,σ',γ',H',rfl,hq,hr,hag,hpin,hm⟩
 obtain⟨htk,hK⟩:=k r σ' hq
 have tk:∀j e,af j σ'=some e→(∃e,af j σL=some e∧e.var=true)∨ao j t (al σL σ) X.pin=true:=fun j e hj=>by
  have:=List.all_eq_true.1 htk _ (dC hj)
  rcases Bool.or_eq_true_iff.1 this with h|h
  ·left
   unfold k9 at h
   split at h
   ·next e hcs=>exact⟨e,hcs,h⟩
   ·cases h
  ·exact .inr h
 have same:∀j,(∀e,af j σ'=some e→ao j t (al σL σ) X.pin=true→False)→γ j=γ' j:=fun j hj=>by
  cases hx:af j σ' with
  |none=>exact hag j hx
  |some e=>
   rcases tk j e hx with⟨e',h,hv⟩|h
   ·exact hpin j e' h hv
   ·exact(hj e hx h).elim
 refine hk γ' H' _ _ _ w' (s.step (σr:=al σL σ) hm (fun b hb=>oT hs hb) kW (fun i e hi=>?_) (fun i e hi=>⟨same i fun f _ hf=>?_,fun j hj=>same j fun f _ hf=>?_⟩) (fun i hi=>same i fun f _ hf=>?_) (fun i x hi j hj=>same j fun f _ hf=>?_) hN hr) hK
 ·cases hx:af i σ' with
  |none=>rfl
  |some f=>
   rcases tk i f hx with⟨e',h,hv⟩|h
   ·rw[d9,h]at hi;cases hi
   ·exact absurd rfl (bh h hi).1
 ·exact(bh hf hi).1 rfl
 ·have:=(bh hf hi).2;rw[hj]at this;cases this
 ·exact jy hf hi rfl
 ·have:=eW hf hi;rw[hj]at this;cases this
theorem kR {x:Operand}{args:Array Operand}{tys:Array TypeId}{j:Nat}{ρ:Res}{st:ρ.S}{avs:List AV}(hP:ρ.P=X.P)(hΛ:ρ.Λ=X.Λ)(hx:ge t x=some (.d (.v ρ.fv)))(hj:af j σ=some (.res ρ st))(ha:gj t args.toList=some avs)(ho:avs.all AV.open=true)
 (hN:dOk d X.N=true)(hf:ao j t (al [(j,.res ρ st)] σ) X.pin=true)(hp:ρ.pre st avs)(k:∀b st',ρ.step st avs b st'→K (putT d (.d (.v (.bool b))) t) ((j,.res ρ st')::al [(j,.res ρ st)] σ)):
 OpJ X ⟨d,.call {callee:=.value x,args:=args,argTypes:=tys},ty,pos,aft,g⟩ t σ K:=by
 intro γ H a w s next Q' hk
 have hfv:=aR (aL s.tmp hx)
 have hok:ρ.ok st (γ j).o H w:=s.mem.ent j _ hj
 have hal:(args.map a.eval).toList.length=avs.length:=by have:=congrArg List.length (bp ha);simpa using this
 have hre:=eV (γ:=γ) (H:=H) (a:=a) (fun x _ v hv=>aL s.tmp hv) (bp ha)
 have key:=ρ.run hp H w (γ j).o (args.map a.eval).toList (by rw[hΛ];exact s.lam.keep s.mem.keep fun b hb=>(s.mem.fresh j _ hj b hb).elim (fun h=>Nat.le_trans s.lam.2.1 h) (s.lam.2.2 b)) hok s.mem.hok (fun b hb=>s.mem.free j _ hj b hb) hal
  (fun i b u hb hu γ2=>by
   have h1:=List.all_eq_true.1 ho b (aJ hb)
   exact(hre i b u hb (by simpa using hu)).free h1)
 rw[hP]at key
 have fin:∀v w',(∃b s' H' O',v=.bool b∧ρ.step st avs b s'∧ρ.ok s' O' H' w'∧Stp w H (γ j).o w' H' O')→next (a.put d v) w':=by
  rintro v w' ⟨b,s',H',O',rfl,hstep,hok',hS⟩
  have o:∀i,i≠j→γ i=upd γ j ⟨(γ j).b,(γ j).n,O'⟩ i:=fun i hi=>(gM γ _ hi).symm
  have one:∀i f,af i ([(j,Ent.res ρ s')]:Sg)=some f→i=j∧f=.res ρ s':=fun i f hi=>by
   rw[ae]at hi
   split at hi
   ·next e'=>exact⟨e',by simpa using hi.symm⟩
   ·simp[af]at hi
  have hm:Mem w H (γ j).o (upd γ j ⟨(γ j).b,(γ j).n,O'⟩) H' [(j,.res ρ s')] w':=by
   refine⟨hS.keep,hS.hle,hS.hnew,hS.hok,fun i f hi=>?_,fun i f hi b hb=>?_,fun i f hi b hb=>?_,fun i f l f' b hi hl hb hb'=>?_⟩
   ·obtain⟨rfl,rfl⟩:=one i f hi
    show ρ.ok s' (upd γ i _ i).o H' w'
    rw[ar];exact hok'
   ·obtain⟨rfl,rfl⟩:=one i f hi
    simp only[blk,ar]at hb
    exact hS.free b hb
   ·obtain⟨rfl,rfl⟩:=one i f hi
    simp only[blk,ar]at hb
    exact(hS.own b hb).symm
   ·obtain⟨rfl,_⟩:=one i f hi;obtain⟨rfl,_⟩:=one l f' hl;rfl
  refine hk _ H' _ _ _ w' (s.step (σr:=al [(j,.res ρ st)] σ) hm (fun b hb=>⟨j,_,hj,by rw[d9,ae,if_pos rfl];rfl,hb⟩) kW (fun i e hi=>?_) (fun i e hi=>⟨o i ?_,fun l hl=>o l fun e=>?_⟩) (fun i hi=>o i (jy hf hi)) (fun i y hi l hl=>o l fun e=>?_) hN ek) (k b s' hstep)
  ·rw[ae,if_neg (bh hf hi).1];rfl
  ·exact(bh hf hi).1
  ·subst e;rw[(bh hf hi).2]at hl;cases hl
  ·subst e;rw[eW hf hi]at hl;cases hl
 rcases key with⟨f,caps,hfe,hcok,hcalls⟩|⟨l,f,tmps,asg,body,hfe,hy,hround⟩
 ·rw[aD (by simp),kn (us:=caps.toList) (by rw[hfv,hfe]) hcok,Oper.uponIn_enter]
  refine⟨fun h=>by simp[Fr]at h,?_⟩
  simp only[Array.toArray_toList]at hcalls ⊢
  have hcalls':=hcalls.mono (R':=fun e w''=>match e with
   |.returned v=>next (a.put d v) w''
   |.panicked chain=>Q' (.panic chain) a w''
   |.outgrown=>LetsOut Q') fun e w' ⟨v,he,hR⟩=>by subst he;exact fin v w' hR
  cases hro:X.ro with
  |none=>exact hcalls'.mono fun e w' h=>by cases e<;>exact h
  |some l0=>exact CallsIn.inRound l0 (hcalls'.mono fun e w' h=>by cases e<;>exact h)
 ·have hrun:(execOp a.eval ⟨d,.call {callee:=.value x,args:=args,argTypes:=tys},ty,pos,aft,g⟩).run X.P w=.ok (.round l f tmps asg body) w:=by
   have hq:a.eval x=.func (.yield l) #[] #[]:=by rw[hfv,hfe]
   simp only[Array.toArray_toList]at hy
   simpa[execOp,resolve,hq,Deferred.ofValue,invoke]using hy
  rw[aD (by simp),hrun,Oper.uponIn_round]
  refine⟨fun h=>by simp[Fr]at h,?_⟩
  have hr':=hround.mono (R':=fun e w''=>match e with
   |.returned v=>next (a.put d v) w''
   |.panicked chain=>Q' (.panic chain) a w''
   |.outgrown=>LetsOut Q') fun e w' ⟨v,he,hR⟩=>by subst he;exact fin v w' hR
  cases hro:X.ro with
  |none=>exact hr'.mono fun e w' h=>by cases e<;>exact h
  |some l0=>exact(show RoundIn (Fr none) 0 X.P l f tmps asg body w _ from hr'.mono fun e w' h=>by cases e<;>exact h)
end call
end Go.Gv
end
section
namespace Go.Gv
open Go.RowKit
def Can (ρ:Res):ρ.S→List (List AV)→Prop
 |_,[]=>True
 |s,x::L=>ρ.pre s x∧∀s',ρ.step s x true s'→Can ρ s' L
inductive Feeds (ρ:Res):ρ.S→List (List AV)→Bool→ρ.S→Prop where
 |nil (s:ρ.S):Feeds ρ s [] true s
 |go {s s1 s2:ρ.S} {x:List AV} {L:List (List AV)} {b:Bool} (h:ρ.step s x true s1) (k:Feeds ρ s1 L b s2):Feeds ρ s (x::L) b s2
 |stop {s s1:ρ.S} {x:List AV} {L:List (List AV)} (h:ρ.step s x false s1):Feeds ρ s (x::L) false s1
theorem Can.app {ρ:Res}:∀{L M:List (List AV)}{s:ρ.S},Can ρ s (L++M)→Can ρ s L∧∀s',Feeds ρ s L true s'→Can ρ s' M
 |[],M,s,h=>⟨trivial,fun s' k=>by cases k;exact h⟩
 |x::L,M,s,h=>⟨⟨h.1,fun s' k=>(Can.app (h.2 s' k)).1⟩,fun s' k=>by
  cases k with
  |go h1 k1=>exact(Can.app (h.2 _ h1)).2 s' k1⟩
theorem Feeds.app {ρ:Res}{L M:List (List AV)}{s s1 s2:ρ.S}{b:Bool}(h:Feeds ρ s L true s1)(k:Feeds ρ s1 M b s2):Feeds ρ s (L++M) b s2:=by
 generalize hb:true=c at h
 induction h with
 |nil s=>exact k
 |go h1 _ ih=>exact .go h1 (ih k hb)
 |stop h1=>cases hb
theorem Feeds.cut {ρ:Res}{L:List (List AV)}(M:List (List AV)){s s1:ρ.S}(h:Feeds ρ s L false s1):Feeds ρ s (L++M) false s1:=by
 generalize hb:false=c at h
 induction h with
 |nil s=>cases hb
 |go h1 _ ih=>exact .go h1 (ih hb)
 |stop h1=>exact .stop h1
def xy (Λ:Amb)(P:Program)(f:FuncId)(caps:List AV)(L:List (List AV)):Prop:=
 ∀(ρ:Res),ρ.P=P→ρ.Λ=Λ→∀s,Can ρ s L→Ct Λ P f (.d (.v ρ.fv)::caps) [(0,.res ρ s)] (fun _ σ'=>∃b s',Feeds ρ s L b s'∧σ'=[(0,.res ρ s')])
def nm0:AV→List Nat
 |.box i _=>[i]
 |.boxX i _=>[i]
 |.arr i _ _=>[i]
 |.suf i _ _ _=>[i]
 |.mp i=>[i]
 |_=>[]
def nm1:AV→List Nat
 |.agg cs=>cs.flatMap nm0
 |.tup cs=>cs.flatMap nm0
 |.fnp _ cs=>cs.flatMap nm0
 |a=>nm0 a
def nV:AV→Bool
 |.agg _=>false
 |.tup _=>false
 |.fnp _ _=>false
 |_=>true
def p5:AV→Bool
 |.agg cs=>cs.all nV
 |.tup cs=>cs.all nV
 |.fnp _ cs=>cs.all nV
 |_=>true
theorem yo {i:Nat}{a:AV}(h:bY i a=true)(hf:nV a=true):i∈nm0 a:=by
 cases a<;>simp_all [bY,nm0,nV]
theorem mV {i:Nat}{cs:List AV}(hf:cs.all nV=true)(h:cs.any (bY i)=true):i∈cs.flatMap nm0:=by
 obtain⟨x,hx,h1⟩:=List.any_eq_true.1 h
 exact List.mem_flatMap.2 ⟨x,hx,yo h1 (List.all_eq_true.1 hf x hx)⟩
theorem yn {i:Nat}{a:AV}(h:ca i a=true)(hf:p5 a=true):i∈nm1 a:=by
 cases a with
 |agg cs=>exact mV hf h
 |tup cs=>exact mV hf h
 |fnp f cs=>exact mV hf h
 |d x=>simp[ca,bY]at h
 |full k xs=>simp[ca,bY]at h
 |junk=>simp[ca,bY]at h
 |box j off=>simp only[ca,bY,Nat.beq_eq]at h;subst h;simp[nm1,nm0]
 |boxX j off=>simp only[ca,bY,Nat.beq_eq]at h;subst h;simp[nm1,nm0]
 |arr j k n=>simp only[ca,bY,Nat.beq_eq]at h;subst h;simp[nm1,nm0]
 |suf j k l n=>simp only[ca,bY,Nat.beq_eq]at h;subst h;simp[nm1,nm0]
 |mp j=>simp only[ca,bY,Nat.beq_eq]at h;subst h;simp[nm1,nm0]
def nm2:AV→List Nat
 |.agg cs=>cs.flatMap nm1
 |.tup cs=>cs.flatMap nm1
 |.fnp _ cs=>cs.flatMap nm1
 |a=>nm0 a
def zb:AV→Bool
 |.agg cs=>cs.all p5
 |.tup cs=>cs.all p5
 |.fnp _ cs=>cs.all p5
 |_=>true
theorem oU {i:Nat}{cs:List AV}(hf:cs.all p5=true)(h:cs.any (ca i)=true):i∈cs.flatMap nm1:=by
 obtain⟨x,hx,h1⟩:=List.any_eq_true.1 h
 exact List.mem_flatMap.2 ⟨x,hx,yn h1 (List.all_eq_true.1 hf x hx)⟩
theorem ym {i:Nat}{a:AV}(h:aP i a=true)(hf:zb a=true):i∈nm2 a:=by
 cases a with
 |agg cs=>exact oU hf h
 |tup cs=>exact oU hf h
 |fnp f cs=>exact oU hf h
 |d x=>simp[aP,ca,bY]at h
 |full k xs=>simp[aP,ca,bY]at h
 |junk=>simp[aP,ca,bY]at h
 |box j off=>simp only[aP,ca,bY,Nat.beq_eq]at h;subst h;simp[nm2,nm0]
 |boxX j off=>simp only[aP,ca,bY,Nat.beq_eq]at h;subst h;simp[nm2,nm0]
 |arr j k n=>simp only[aP,ca,bY,Nat.beq_eq]at h;subst h;simp[nm2,nm0]
 |suf j k l n=>simp only[aP,ca,bY,Nat.beq_eq]at h;subst h;simp[nm2,nm0]
 |mp j=>simp only[aP,ca,bY,Nat.beq_eq]at h;subst h;simp[nm2,nm0]
def co:T→List Nat
 |[]=>[]
 |(_,a)::t=>nm2 a++co t
def my (t:T):Bool:=t.all fun p=>zb p.2
theorem x8 {t:T}(hf:my t=true){i j:Nat}{a:AV}(hj:af j t=some a)(hi:aP i a=true):i∈co t:=by
 have h1:=dC hj
 have h2:=List.all_eq_true.1 hf _ h1
 have h3:=ym hi h2
 clear hj hf h2 hi
 induction t with
 |nil=>simp at h1
 |cons p t ih=>
  obtain⟨k,b⟩:=p
  simp only[co,List.mem_append]
  rcases List.mem_cons.1 h1 with h|h
  ·cases h;exact .inl h3
  ·exact .inr (ih h)
end Go.Gv
end
section
namespace Go.Gv
open Go.RowKit
def xL:List Nat→List AV→T→T
 |p::ps,a::as1,t=>xL ps as1 ((p,a)::t)
 |_,_,t=>t
theorem uK {γ:Ids}{H:HF}{N:Nat}:∀(ps:List Nat)(as1:List AV)(us:List Value)(t:T)(tm:Array Value),TmpOk γ H t tm→tm.size=N→(∀p,p∈ps→p<N)→us.length=as1.length→
 (∀(j:Nat)(a:AV)(u:Value),as1[j]?=some a→us[j]?=some u→Rep γ H a u)→TmpOk γ H (xL ps as1 t) ((ps.zip us).foldl (fun tm p=>tm.setIfInBounds p.1 p.2) tm)∧((ps.zip us).foldl (fun tm p=>tm.setIfInBounds p.1 p.2) tm).size=N
 |[],as1,us,t,tm,h,hs,_,_,_=>⟨h,hs⟩
 |p::ps,[],us,t,tm,h,hs,_,hl,_=>by
  have:us=[]:=List.length_eq_zero_iff.1 hl
  subst this
  exact⟨h,hs⟩
 |p::ps,a::as1,[],t,tm,h,hs,_,hl,_=>by simp at hl
 |p::ps,a::as1,u::us,t,tm,h,hs,hp,hl,hr=>by
  have hlt:p<tm.size:=by rw[hs];exact hp p (by simp)
  refine uK ps as1 us ((p,a)::t) (tm.setIfInBounds p u) (fun i b hi=>?_) (by simpa using hs) (fun q hq=>hp q (List.mem_cons_of_mem _ hq)) (by simpa using hl) (fun j b v hb hv=>hr (j+1) b v (by simpa using hb) (by simpa using hv))
  rw[ae]at hi
  split at hi
  ·next e=>
   subst e
   simp only[Option.some.injEq]at hi;subst hi
   exact⟨u,by simp[hlt],hr 0 a u rfl rfl⟩
  ·next e=>
   obtain⟨v,hv,r⟩:=h i b hi
   exact⟨v,by rw[Array.getElem?_setIfInBounds,if_neg (fun h=>e h.symm)];exact hv,r⟩
theorem mj {H:HF}{w:World}{l:Nat}{r r':Loop}(h:HOk H w)(hl:w.heap[l]?=some (.loop r)):HOk H (w.putObj l (.loop r')):=by
 have hne:∀c x v,w.cell? ⟨c,x,none⟩=some v→c≠l:=fun c x v hc e=>by subst e;simp[World.cell?,hl]at hc
 refine⟨fun c x v hv=>?_,fun c x y hv=>?_⟩
 ·have:=h.c c x v hv
  have h2:=hne c x v this
  simp only[World.cell?]at this ⊢
  rw[World.putObj_heap_other h2];exact this
 ·have:=h.m c x y hv
  rw[World.putObj_heap_other fun e=>by subst e;rw[hl]at this;cases this];exact this
theorem vU {w0 w:World}{H0 H:HF}{B:Nat→Prop}{γ:Ids}{σ:Sg}{l:Nat}{r r':Loop}(h:Mem w0 H0 B γ H σ w)(hl:w.heap[l]?=some (.loop r))(h0:l<w0.heap.size)(hB:¬B l):
 Mem (w0.putObj l (.loop r')) H0 B γ H σ (w.putObj l (.loop r')):=by
 have hb:∀i e b,af i σ=some e→blk γ i e b→b≠l:=fun i e b hi hb e'=>by
  subst e'
  rcases h.fresh i e hi b hb with h1|h1
  ·omega
  ·exact hB h1
 refine⟨⟨h.keep.os,h.keep.tape,h.keep.output,by simpa using h.keep.size,fun k hk hk'=>?_⟩,h.hle,?_,mj h.hok hl,fun i e hi=>(h.ent i e hi).later (HLe.refl _) (by simp) fun b hbb=>World.putObj_heap_other (hb i e b hi hbb),h.free,fun i e hi b hbb=>by simpa using h.fresh i e hi b hbb,h.apart⟩
 ·by_cases e:k=l
  ·subst e
   rw[World.putObj_heap_same (aA hl),World.putObj_heap_same h0]
  ·rw[World.putObj_heap_other e,World.putObj_heap_other e]
   exact h.keep.block k (by simpa using hk) hk'
 ·have:=h.hnew
  refine⟨fun b o v hv=>?_,fun b x hv=>?_⟩
  ·simpa using this.c b o v hv
  ·simpa using this.m b x hv
section
variable {α V:Type} (enc:α→List AV) (L:List α) (SS:V→Sg) (I:List α→V→Prop) (Ix:Code→List α→V→Prop)
structure ROk (l D:Nat)(outer:Bool)(rc:LoopState→Option Code→Loop)(pins:List Nat)(γe:Ids)(t:T)(tmps:Array Value)(s:List α×Option Code)(O:Nat→Prop)(H:HF)(w:World)(v:V)(γ:Ids):Prop where
 inv:match s.2 with|none=>I s.1 v|some c=>Ix c s.1 v
 pin:∀i,i∈pins→γ i=γe i
 tmp:TmpOk γ H t tmps
 rcd:w.heap[l]?=some (.loop (rc (match s.2 with|none=>.ready|some _=>.done) s.2))
 dfr:outer=true→w.heap[D]?=some (.deferred (some []))
 lt:∀b,O b→b<w.heap.size
 ol:O l
 od:outer=true→O D
 ent:∀i e,af i (SS v)=some e→EntOk γ H w i e
 blk:∀i e b,af i (SS v)=some e→Gv.blk γ i e b→O b∧b≠l∧(outer=true→b≠D)
 apart:∀i e j e' b,af i (SS v)=some e→af j (SS v)=some e'→Gv.blk γ i e b→Gv.blk γ j e' b→i=j
theorem ROk.later {l D:Nat}{outer:Bool}{rc:LoopState→Option Code→Loop}{pins:List Nat}{γe:Ids}{t:T}{tmps:Array Value}{s:List α×Option Code}{O:Nat→Prop}{H H':HF}{w w':World}{v:V}{γ:Ids}
 (h:ROk SS I Ix l D outer rc pins γe t tmps s O H w v γ)(hle:HLe H H')(hs:w.heap.size≤w'.heap.size)(hb:∀b,O b→w'.heap[b]?=w.heap[b]?):ROk SS I Ix l D outer rc pins γe t tmps s O H' w' v γ:=
 ⟨h.inv,h.pin,h.tmp.mono hle,(hb l h.ol).trans h.rcd,fun o=>(hb D (h.od o)).trans (h.dfr o),fun b hbb=>Nat.lt_of_lt_of_le (h.lt b hbb) hs,h.ol,h.od,fun i e hi=>(h.ent i e hi).later hle hs fun b hbb=>hb b (h.blk i e b hi hbb).1,h.blk,h.apart⟩
def Br (p:List α):Qt
 |.normal,_,σ=>∃v',I p v'∧Has (SS v') σ
 |.ret,_,σ=>∃v',Ix .ret p v'∧Has (SS v') σ
 |.exit id,_,σ=>∃v',Ix (.exit id) p v'∧Has (SS v') σ
 |.goto g,_,σ=>∃v',Ix (.goto g) p v'∧Has (SS v') σ
 |_,_,_=>False
def kz (P:Program)(Λ:Amb)(N l:Nat)(pins:List Nat)(ps:List Nat)(assign body:Code)(t:T):Prop:=
 ∀(pre:List α)(x:α)(post:List α)(v:V),L=pre++x::post→I pre v→∀w0 H0 B g0,vc ⟨P,Λ,some l,w0,H0,B,N,pins,g0⟩ assign (xL ps (enc x) t) (SS v) (fun e t' σ'=>match e with
  |.normal=>∀w0 H0 B g0,vc ⟨P,Λ,some l,w0,H0,B,N,pins,g0⟩ body t' σ' (Br SS I Ix (pre++[x]))
  |_=>False)
def A0 (s:List α×Option Code)(xs:List AV):Prop:=s.2=none∧∃x post,L=s.1++x::post∧xs=enc x
def vk (s:List α×Option Code)(xs:List AV)(b:Bool)(s':List α×Option Code):Prop:=
 s.2=none∧∃x post,L=s.1++x::post∧xs=enc x∧((b=true∧s'=(s.1++[x],none))∨(b=false∧∃c,s'=(s.1++[x],some c)))
theorem tF {P:Program}{Λ:Amb}{N l D:Nat}{outer:Bool}{fn:FuncId}{ps:Array Nat}{assign body:Code}{df:Nat}{pins:List Nat}{γe:Ids}{t:T}{tmps:Array Value}(hsz:tmps.size=N)(hps:∀p,p∈ps.toList→p<N)(hen:∀x,(enc x).length=ps.size)
 (hD:outer=true→D≠l)(hfl:my t=true)(hpn:∀i,i∈co t→i∈pins)(hround:kz enc L SS I Ix P Λ N l pins ps.toList assign body t){s:List α×Option Code}{xs:List AV}(hpre:A0 enc L s xs)(H:HF)(w:World)(O:Nat→Prop)(vs:List Value)(hΛ:Lam Λ w O)
 (hok:∃v γ,ROk SS I Ix l D outer (fun st pe=>{state:=st,pending:=pe,fn:=fn,tmps:=tmps,params:=ps,assign:=assign,body:=body,defers:=df}) pins γe t tmps s O H w v γ)(hH:HOk H w)(hfree:∀b,O b→Free H b)(hl:vs.length=xs.length)
 (hr:∀(j:Nat)(a:AV)(u:Value),xs[j]?=some a→vs[j]?=some u→∀γ,Rep γ H a u):
 zn P (.func (.yield l) #[] #[]) vs w fun v w'=>∃b s' H' O',v=.bool b∧vk enc L s xs b s'∧(∃v γ,ROk SS I Ix l D outer (fun st pe=>{state:=st,pending:=pe,fn:=fn,tmps:=tmps,params:=ps,assign:=assign,body:=body,defers:=df}) pins γe t tmps s' O' H' w' v γ)∧Stp w H O w' H' O':=by
 obtain⟨rc,hrc⟩:∃rc:LoopState→Option Code→Loop,rc=fun st pe=>{state:=st,pending:=pe,fn:=fn,tmps:=tmps,params:=ps,assign:=assign,body:=body,defers:=df}:=⟨_,rfl⟩
 rw[←hrc]at hok ⊢
 obtain⟨v,γ,R⟩:=hok
 obtain⟨p,o⟩:=s
 obtain⟨h1,x,post,hL,rfl⟩:=hpre
 simp only at h1 hL;subst h1
 have hrec:=R.rcd
 simp only at hrec
 have hinv:I p v:=R.inv
 let B1:Nat→Prop:=fun b=>O b∧b≠l∧(outer=true→b≠D)
 have hlw:l<w.heap.size:=R.lt l R.ol
 have hy:=run_yield (P:=P) (args:=vs.toArray) hrec (by rw[hrc];simp[hl,hen x])
 simp only[hrc]at hy
 have hzip:(ps.zip vs.toArray).foldl (fun tmps x=>match x with|(t,a)=>tmps.setIfInBounds t a) tmps=(ps.toList.zip vs).foldl (fun tm p=>tm.setIfInBounds p.1 p.2) tmps:=by
  rw[←Array.foldl_toList];simp
 obtain⟨htm,hts⟩:=uK (γ:=γ) (H:=H) ps.toList (enc x) vs t tmps R.tmp hsz hps hl (fun j a u ha hu=>hr j a u ha hu γ)
 refine .inr ⟨l,fn,_,assign,body,rfl,hy,roundIn_of_wpIn trivial ?_⟩
 rw[hzip]
 generalize hT:(ps.toList.zip vs).foldl (fun tm p=>tm.setIfInBounds p.1 p.2) tmps=tm1 at htm hts
 have hB1l:¬B1 l:=fun h=>h.2.1 rfl
 have hB1D:outer=true→¬B1 D:=fun ho h=>h.2.2 ho rfl
 have s0:St ⟨P,Λ,some l,w,H,B1,N,pins,γ⟩ γ H (xL ps.toList (enc x) t) (SS v) {tmps:=tm1,defers:=[]} w:=by
  refine⟨⟨hΛ.1,hΛ.2.1,fun b hb=>hΛ.2.2 b hb.1⟩,fun l' e=>?_,⟨[],rfl,List.nodup_nil,fun b h=>by simp at h⟩,hts,fun i _=>rfl,htm,?_⟩
  ·cases e;exact⟨⟨_,hrec⟩,hB1l⟩
  ·exact⟨Keeps.refl _ _,HLe.refl _,HNew.refl _ _ _,hH,R.ent,fun i e hi b hb=>hfree b (R.blk i e b hi hb).1,fun i e hi b hb=>.inr (R.blk i e b hi hb),R.apart⟩
 have hv:=ay _ _ _ _ (hround p x post v hL hinv w H B1 γ)
 refine wpIn_mono (hv γ H _ w s0) ?_
 rintro e a1 w1 ⟨γ1,H1,t1,σ1,s1,q1⟩
 cases e with
 |normal=>
  have hl1:w1.heap[l]?=some (.loop (rc .ready none)):=(s1.mem.keep.block l hlw hB1l).trans hrec
  refine⟨_,run_beginRound hl1 (by rw[hrc]),?_⟩
  obtain⟨bz,hbz⟩:∃bz:Loop,bz={rc .ready none with state:=.busy}:=⟨_,rfl⟩
  rw[←hbz]
  have hl2:(w1.putObj l (.loop bz)).heap[l]?=some (.loop bz):=World.putObj_heap_same (aA hl1)
  have s2:St ⟨P,Λ,some l,w.putObj l (.loop bz),H,B1,N,pins,γ⟩ γ1 H1 t1 σ1 a1 (w1.putObj l (.loop bz)):=by
   refine⟨⟨Λ.st hΛ.1 fun k hk=>World.putObj_heap_other (fun e=>by have:=hΛ.2.2 l R.ol;omega),by simpa using hΛ.2.1,fun b hb=>hΛ.2.2 b hb.1⟩,fun l' e=>?_,?_,s1.size,s1.pinned,s1.tmp,vU s1.mem hl1 hlw hB1l⟩
   ·cases e;exact⟨⟨_,World.putObj_heap_same hlw⟩,hB1l⟩
   ·obtain⟨ms,hd,m1,m2⟩:=s1.defers
    refine⟨ms,hd,m1,fun b hb=>?_⟩
    obtain⟨h3,h4,h5⟩:=m2 b hb
    exact⟨by rw[World.putObj_heap_other (fun e=>by subst e;rw[hl1]at h3;cases h3)];exact h3,by simpa using h4,h5⟩
  refine wpIn_mono (ay _ _ _ _ (q1 _ _ _ _) γ1 H1 a1 _ s2) ?_
  rintro e a3 w3 ⟨γ3,H3,t3,σ3,s3,q3⟩
  have hl3:w3.heap[l]?=some (.loop bz):=(s3.mem.keep.block l (by simpa using hlw) hB1l).trans (World.putObj_heap_same hlw)
  have fin:∀(jump:Option Code)(v':V),(match jump with|none=>I (p++[x]) v'|some c=>Ix c (p++[x]) v')→Has (SS v') σ3→
   ∃u w',(Instr.endRound l jump).run P w3=.ok u w'∧∃v,Ending.returned u=.returned v∧∃b s' H' O',v=.bool b∧vk enc L (p,none) (enc x) b s'∧(∃v γ,ROk SS I Ix l D outer rc pins γe t tmps s' O' H' w' v γ)∧Stp w H O w' H' O':=by
   intro jump v' hJ hHas
   have hrun:=run_endRound (P:=P) jump hl3
   have hrec':({bz with state:=if jump.isNone then .ready else .done,pending:=jump}:Loop)=rc (if jump.isNone then .ready else .done) jump:=by rw[hbz,hrc]
   rw[hrec']at hrun
   have hwk:=hHas.wk
   refine⟨_,_,hrun,_,rfl,jump.isNone,(p++[x],jump),H3,fun b=>(∃i e,af i (SS v')=some e∧blk γ3 i e b)∨b=l∨(outer=true∧b=D),rfl,⟨rfl,x,post,hL,rfl,?_⟩,⟨v',γ3,?_⟩,?_⟩
   ·cases jump with
    |none=>exact .inl ⟨rfl,rfl⟩
    |some c=>exact .inr ⟨rfl,c,rfl⟩
   ·have hbl:∀i e b,af i (SS v')=some e→blk γ3 i e b→b≠l∧(outer=true→b≠D):=fun i e b hi hb=>by
     rcases s3.mem.fresh i e (hwk i e hi) b hb with h|h
     ·simp only[World.putObj_size]at h
      exact⟨by omega,fun ho=>by have:=R.lt D (R.od ho);omega⟩
     ·exact⟨h.2.1,h.2.2⟩
    have hne:∀ho:outer=true,D≠l:=hD
    refine⟨?_,fun i hi=>(s3.pinned i hi).trans (R.pin i hi),fun i a hi=>?_,?_,fun ho=>?_,fun b hb=>?_,.inr (.inl rfl),fun ho=>.inr (.inr ⟨ho,rfl⟩),fun i e hi=>(s3.mem.ent i e (hwk i e hi)).later (HLe.refl _) (by simp) fun b hb=>World.putObj_heap_other (hbl i e b hi hb).1,fun i e b hi hb=>⟨.inl ⟨i,e,hi,hb⟩,hbl i e b hi hb⟩,fun i e j e' b hi hj=>s3.mem.apart i e j e' b (hwk i e hi) (hwk j e' hj)⟩
    ·cases jump<;>exact hJ
    ·obtain⟨u,hu,r⟩:=R.tmp i a hi
     refine⟨u,hu,(r.mono s3.mem.hle).agree fun j hj=>?_⟩
     exact(s3.pinned j (hpn j (x8 hfl hi hj))).symm
    ·rw[World.putObj_heap_same (aA hl3)]
     cases jump<;>rfl
    ·rw[World.putObj_heap_other (hne ho),s3.mem.keep.block D (by simpa using R.lt D (R.od ho)) (hB1D ho),World.putObj_heap_other (hne ho)]
     exact R.dfr ho
    ·have hs3:w.heap.size≤w3.heap.size:=by have:=s3.mem.keep.size;simpa using this
     rcases hb with⟨i,e,hi,hb⟩|rfl|⟨ho,rfl⟩
     ·simpa using(s3.mem.ent i e (hwk i e hi)).lt hb
     ·simpa using aA hl3
     ·have:=R.lt b (R.od ho);simp;omega
   ·have hw0:(w.putObj l (.loop bz)).heap.size=w.heap.size:=by simp
    have hnw:=s3.mem.hnew
    simp only[hw0]at hnw
    refine⟨⟨s3.mem.keep.os,s3.mem.keep.tape,s3.mem.keep.output,by have:=s3.mem.keep.size;simpa using this,fun k hk hko=>?_⟩,s3.mem.hle,⟨fun b o v hv=>?_,fun b x hv=>?_⟩,mj s3.mem.hok hl3,fun b hb=>?_,fun b hb=>?_⟩
    ·have hkl:k≠l:=fun e=>hko (e▸R.ol)
     rw[World.putObj_heap_other hkl,s3.mem.keep.block k (by simpa using hk) (fun h=>hko h.1),World.putObj_heap_other hkl]
    ·rcases hnw.c b o v hv with h|h|h
     ·exact .inl h
     ·exact .inr (.inl h)
     ·exact .inr (.inr h.1)
    ·rcases hnw.m b x hv with h|h|h
     ·exact .inl h
     ·exact .inr (.inl h)
     ·exact .inr (.inr h.1)
    ·rcases hb with⟨i,e,hi,hb⟩|rfl|⟨ho,rfl⟩
     ·rcases s3.mem.fresh i e (hwk i e hi) b hb with h|h
      ·exact .inr (by simpa using h)
      ·exact .inl h.1
     ·exact .inl R.ol
     ·exact .inl (R.od ho)
    ·rcases hb with⟨i,e,hi,hb⟩|rfl|⟨ho,rfl⟩
     ·exact s3.mem.free i e (hwk i e hi) b hb
     ·exact(hfree b R.ol).later hnw hlw hB1l
     ·exact(hfree b (R.od ho)).later hnw (R.lt b (R.od ho)) (hB1D ho)
  cases e with
  |normal=>obtain⟨v',hi,hh⟩:=q3;exact fin none v' hi hh
  |ret=>obtain⟨v',hi,hh⟩:=q3;exact fin (some .ret) v' hi hh
  |exit id=>obtain⟨v',hi,hh⟩:=q3;exact fin (some (.exit id)) v' hi hh
  |goto g=>obtain⟨v',hi,hh⟩:=q3;exact fin (some (.goto g)) v' hi hh
  |panic ch=>exact q3.elim
  |outgrown=>exact q3.elim
 |exit id=>exact q1.elim
 |goto g=>exact q1.elim
 |ret=>exact q1.elim
 |panic ch=>exact q1.elim
 |outgrown=>exact q1.elim
end
end Go.Gv
end
section
namespace Go.Gv
open Go.RowKit
theorem Feeds.inv {ρ:Res}{s s':ρ.S}{M:List (List AV)}{b:Bool}(h:Feeds ρ s M b s'):(M=[]∧b=true∧s'=s)∨(∃x L s1,M=x::L∧ρ.step s x true s1∧Feeds ρ s1 L b s')∨(∃x L,M=x::L∧b=false∧ρ.step s x false s'):=by
 cases h with
 |nil=>exact .inl ⟨rfl,rfl,rfl⟩
 |go h k=>exact .inr (.inl ⟨_,_,_,rfl,h,k⟩)
 |stop h=>exact .inr (.inr ⟨_,_,rfl,rfl,h⟩)
section
variable {α V:Type} (enc:α→List AV) (L:List α) (SS:V→Sg) (I:List α→V→Prop) (Ix:Code→List α→V→Prop)
def lH {P:Program}{Λ:Amb}{N l D:Nat}{outer:Bool}{fn:FuncId}{ps:Array Nat}{assign body:Code}{df:Nat}{pins:List Nat}{γe:Ids}{t:T}{tmps:Array Value}(hsz:tmps.size=N)(hps:∀p,p∈ps.toList→p<N)(hen:∀x,(enc x).length=ps.size)
 (hD:outer=true→D≠l)(hfl:my t=true)(hpn:∀i,i∈co t→i∈pins)(hround:kz enc L SS I Ix P Λ N l pins ps.toList assign body t):Res where
 S:=List α×Option Code
 P:=P
 Λ:=Λ
 fv:=.func (.yield l) #[] #[]
 ok s O H w:=∃v γ,ROk SS I Ix l D outer (fun st pe=>{state:=st,pending:=pe,fn:=fn,tmps:=tmps,params:=ps,assign:=assign,body:=body,defers:=df}) pins γe t tmps s O H w v γ
 lt:=fun⟨_,_,h⟩=>h.lt
 later:=fun⟨v,γ,h⟩ h1 h2 h3=>⟨v,γ,h.later SS I Ix h1 h2 h3⟩
 pre:=A0 enc L
 step:=vk enc L
 run:=fun hp H w O vs hΛ hok hH hf hl hr=>tF enc L SS I Ix hsz hps hen hD hfl hpn hround hp H w O vs hΛ hok hH hf hl hr
theorem n8 {P:Program}{Λ:Amb}{N l D:Nat}{outer:Bool}{fn:FuncId}{ps:Array Nat}{assign body:Code}{df:Nat}{pins:List Nat}{γe:Ids}{t:T}{tmps:Array Value}(hsz:tmps.size=N)(hps:∀p,p∈ps.toList→p<N)(hen:∀x,(enc x).length=ps.size)
 (hD:outer=true→D≠l)(hfl:my t=true)(hpn:∀i,i∈co t→i∈pins)(hround:kz enc L SS I Ix P Λ N l pins ps.toList assign body t):∀(al p:List α),L=p++al→
 Can (lH enc L SS I Ix (D:=D) (outer:=outer) (fn:=fn) (df:=df) (γe:=γe) hsz hps hen hD hfl hpn hround) (p,none) (al.map enc)
 |[],p,_=>trivial
 |x::al,p,h=>⟨⟨rfl,x,al,h,rfl⟩,fun s' hs=>by
  obtain⟨_,x',post,h1,_,h2⟩:=hs
  rcases h2 with⟨_,rfl⟩|⟨h2,_⟩
  ·have:x'::post=x::al:=List.append_cancel_left (h1.symm.trans h)
   cases this
   exact n8 hsz hps hen hD hfl hpn hround al (p++[x]) (by rw[h,List.append_assoc];rfl)
  ·cases h2⟩
theorem kJ {P:Program}{Λ:Amb}{N l D:Nat}{outer:Bool}{fn:FuncId}{ps:Array Nat}{assign body:Code}{df:Nat}{pins:List Nat}{γe:Ids}{t:T}{tmps:Array Value}(hsz:tmps.size=N)(hps:∀p,p∈ps.toList→p<N)(hen:∀x,(enc x).length=ps.size)
 (hD:outer=true→D≠l)(hfl:my t=true)(hpn:∀i,i∈co t→i∈pins)(hround:kz enc L SS I Ix P Λ N l pins ps.toList assign body t):∀(al p:List α)(b:Bool)(s':List α×Option Code),L=p++al→
 Feeds (lH enc L SS I Ix (D:=D) (outer:=outer) (fn:=fn) (df:=df) (γe:=γe) hsz hps hen hD hfl hpn hround) (p,none) (al.map enc) b s'→s'=(L,none)∨∃q c,s'=(q,some c)
 |[],p,b,s',h,k=>by
  rw[List.append_nil]at h
  rcases k.inv with⟨_,_,e⟩|⟨_,_,_,e,_⟩|⟨_,_,e,_⟩
  ·exact .inl (by rw[h];exact e)
  ·cases e
  ·cases e
 |x::al,p,b,s',h,k=>by
  rcases k.inv with⟨e,_⟩|⟨y,M,s1,e,hs,k⟩|⟨y,M,e,_,hs⟩
  ·cases e
  ·cases e
   obtain⟨_,x',post,h1,_,h2⟩:=hs
   rcases h2 with⟨_,rfl⟩|⟨h2,_⟩
   ·have:x'::post=x::al:=List.append_cancel_left (h1.symm.trans h)
    cases this
    exact kJ hsz hps hen hD hfl hpn hround al (p++[x]) b s' (by rw[h,List.append_assoc];rfl) k
   ·cases h2
  ·cases e
   obtain⟨_,x',post,h1,_,h2⟩:=hs
   rcases h2 with⟨h2,_⟩|⟨_,c,e⟩
   ·cases h2
   ·exact .inr ⟨_,c,e⟩
theorem tP {X:Cx}{t:T}{σ:Sg}{γ γ' γ3:Ids}{H H':HF}{a:Act}{w W1 w3:World}{l D:Nat}{outer:Bool}{rc:LoopState→Option Code→Loop}{pins:List Nat}{s':List α×Option Code}{v0 v':V}{ρ:Res}{st:ρ.S}{mark:List Deferred}{O0:Nat→Prop}
 (s:St X γ H t σ a w)(hw:Wk (SS v0) σ)(hpin:∀i,i∈X.pin→i∈pins)
 (hO:∀b,O0 b→(∃i e,af i (SS v0)=some e∧Gv.blk γ i e b)∨b=l∨(outer=true∧b=D))
 (hl:w.heap.size≤l)(hD:outer=true→w.heap.size≤D∧D≠l)(hmark:mark=if outer=true then[{target:=.collected D,args:=#[]}]else[])
 (k1:Keeps w (fun _=>False) W1)(m:Mem W1 H O0 γ' H' [(0,.res ρ st)] w3)
 (R:ROk SS I Ix l D outer rc pins γ t a.tmps s' (γ' 0).o H' w3 v' γ3)(r':Loop):
 St X γ3 H' t (SS v') {a with defers:=mark++a.defers} (w3.putObj l (.loop r')):=by
 have hO':∀b,(γ' 0).o b→W1.heap.size≤b∨O0 b:=fun b hb=>m.fresh 0 _ rfl b hb
 have hz:=k1.size
 have old:∀b,O0 b→b<w.heap.size→∃i e,af i σ=some e∧Gv.blk γ i e b:=fun b hb hlt=>by
  rcases hO b hb with⟨i,e,hi,h⟩|rfl|⟨ho,rfl⟩
  ·exact⟨i,e,hw i e hi,h⟩
  ·omega
  ·have:=(hD ho).1;omega
 have xw:∀b,O0 b→X.w0.heap.size≤b∨X.B b:=fun b hb=>by
  by_cases hlt:b<w.heap.size
  ·obtain⟨i,e,hi,h⟩:=old b hb hlt
   exact s.mem.fresh i e hi b h
  ·have:=s.mem.keep.size;exact .inl (by omega)
 have fr:∀b,(γ' 0).o b→X.w0.heap.size≤b∨X.B b:=fun b hb=>by
  rcases hO' b hb with h|h
  ·have:=s.mem.keep.size;exact .inl (by omega)
  ·exact xw b h
 have hrec:=R.rcd
 have hlX:X.w0.heap.size≤l:=Nat.le_trans s.mem.keep.size hl
 refine⟨s.lam,s.round,?_,s.size,fun i hi=>(R.pin i (hpin i hi)).trans (s.pinned i hi),R.tmp,?_⟩
 ·obtain⟨ms,hd,m1,m2⟩:=s.defers
  have oldm:∀b,b∈ms→(w3.putObj l (.loop r')).heap[b]?=some (.deferred (some []))∧X.w0.heap.size≤b∧¬blks γ3 (SS v') b:=fun b hb=>by
   obtain⟨h3,h4,h5⟩:=m2 b hb
   have hlt:=aA h3
   have hno:¬O0 b:=fun h=>by obtain⟨i,e,hi,hbb⟩:=old b h hlt;exact h5 ⟨i,e,hi,hbb⟩
   refine⟨?_,h4,fun⟨i,e,hi,hbb⟩=>?_⟩
   ·rw[World.putObj_heap_other (by omega),m.keep.block b (by omega) hno,k1.block b hlt (fun h=>h)];exact h3
   ·rcases hO' b (R.blk i e b hi hbb).1 with h|h
    ·omega
    ·exact hno h
  cases ho:outer with
  |false=>
   rw[ho]at hmark
   refine⟨ms,by simp only[hmark,hd];rfl,m1,oldm⟩
  |true=>
   rw[ho]at hmark
   refine⟨D::ms,by simp only[hmark,hd];rfl,List.nodup_cons.2 ⟨fun hm=>?_,m1⟩,fun b hb=>?_⟩
   ·have:=aA (m2 D hm).1;have:=(hD ho).1;omega
   ·rcases List.mem_cons.1 hb with rfl|hb
    ·refine⟨by rw[World.putObj_heap_other (hD ho).2];exact R.dfr ho,Nat.le_trans s.mem.keep.size (hD ho).1,fun⟨i,e,hi,hbb⟩=>(R.blk i e b hi hbb).2.2 ho rfl⟩
    ·exact oldm b hb
 ·refine⟨⟨m.keep.os.trans (k1.os.trans s.mem.keep.os),m.keep.tape.trans (k1.tape.trans s.mem.keep.tape),m.keep.output.trans (k1.output.trans s.mem.keep.output),?_,fun k hk hkB=>?_⟩,s.mem.hle.trans m.hle,⟨fun b o v hv=>?_,fun b y hv=>?_⟩,mj m.hok hrec,
   fun i e hi=>(R.ent i e hi).later (HLe.refl _) (by simp) fun b hb=>World.putObj_heap_other (R.blk i e b hi hb).2.1,fun i e hi b hb=>m.free 0 _ rfl b (R.blk i e b hi hb).1,fun i e hi b hb=>fr b (R.blk i e b hi hb).1,R.apart⟩
  ·have h1:=s.mem.keep.size;have h2:=m.keep.size;simp;omega
  ·have h1:=s.mem.keep.size
   have hno:¬O0 k:=fun h=>(xw k h).elim (fun h=>by omega) hkB
   rw[World.putObj_heap_other (by omega),m.keep.block k (by omega) hno,k1.block k (by omega) (fun h=>h),s.mem.keep.block k hk hkB]
  ·rcases m.hnew.c b o v hv with h|h|h
   ·exact s.mem.hnew.c b o v h
   ·have h1:=s.mem.keep.size;exact .inr (.inl (by omega))
   ·exact .inr (xw b h)
  ·rcases m.hnew.m b y hv with h|h|h
   ·exact s.mem.hnew.m b y h
   ·have h1:=s.mem.keep.size;exact .inr (.inl (by omega))
   ·exact .inr (xw b h)
theorem pv {X:Cx}{t:T}{σ:Sg}{γ:Ids}{H:HF}{a:Act}{w W1:World}{l D:Nat}{outer:Bool}{rc:LoopState→Option Code→Loop}{pins:List Nat}{v0:V}
 (s:St X γ H t σ a w)(hw:Wk (SS v0) σ)(hI:I [] v0)(hl:w.heap.size≤l)(hD:outer=true→w.heap.size≤D∧D≠l)
 (k1:Keeps w (fun _=>False) W1)(hrec:W1.heap[l]?=some (.loop (rc .ready none)))(hdf:outer=true→W1.heap[D]?=some (.deferred (some []))):
 ROk SS I Ix l D outer rc pins γ t a.tmps ([],none) (fun b=>(∃i e,af i (SS v0)=some e∧Gv.blk γ i e b)∨b=l∨(outer=true∧b=D)) H W1 v0 γ:=by
 have hz:=k1.size
 have hlt:∀i e b,af i (SS v0)=some e→Gv.blk γ i e b→b<w.heap.size:=fun i e b hi hb=>(s.mem.ent i e (hw i e hi)).lt hb
 refine⟨hI,fun _ _=>rfl,s.tmp,hrec,hdf,fun b hb=>?_,.inr (.inl rfl),fun ho=>.inr (.inr ⟨ho,rfl⟩),fun i e hi=>(s.mem.ent i e (hw i e hi)).later (HLe.refl _) hz fun b hb=>k1.block b (hlt i e b hi hb) (fun h=>h),
  fun i e b hi hb=>⟨.inl ⟨i,e,hi,hb⟩,?_,fun ho=>?_⟩,fun i e j e' b hi hj=>s.mem.apart i e j e' b (hw i e hi) (hw j e' hj)⟩
 ·rcases hb with⟨i,e,hi,hb⟩|rfl|⟨ho,rfl⟩
  ·have:=hlt i e b hi hb;omega
  ·exact aA hrec
  ·exact aA (hdf ho)
 ·have:=hlt i e b hi hb;omega
 ·have:=hlt i e b hi hb;have:=(hD ho).1;omega
end
end Go.Gv
end
section
namespace Go.Gv
open Go.RowKit
theorem eT (w:World)(o:Obj):Keeps w (fun _=>False) (w.alloc o):=⟨rfl,rfl,rfl,by simp,fun k hk _=>by
 show(w.heap.push o)[k]?=_
 rw[Array.getElem?_push,if_neg (by omega)]⟩
theorem ue {H:HF}{w w':World}(h:HOk H w)(k:Keeps w (fun _=>False) w'):HOk H w':=⟨fun b o v hv=>by
 have h1:=h.c b o v hv
 have hlt:=bG h1
 simp only[World.cell?]at h1 ⊢
 rw[k.block b hlt (fun x=>x)];exact h1,fun b es c hv=>by
 have h1:=h.m b es c hv
 exact(k.block b (aA h1) (fun x=>x)).trans h1⟩
theorem wd {H:HF}{w:World}(h:HOk H w){b:Nat}(hb:w.heap.size≤b):Free H b:=by
 refine⟨fun o=>?_,?_⟩
 ·cases hx:H.c b o with
  |none=>rfl
  |some v=>have:=bG (h.c b o v hx);omega
 ·cases hx:H.m b with
  |none=>rfl
  |some x=>obtain⟨es,c⟩:=x;have:=aA (h.m b es c hx);omega
section
variable {α V:Type} (enc:α→List AV) (L:List α) (SS:V→Sg) (I:List α→V→Prop) (Ix:Code→List α→V→Prop)
theorem uB {X:Cx}{g:Operand}{ps:Array Nat}{assign body:Code}{t:T}{σ:Sg}{Q:Qt}(v0:V){gf:FuncId}{caps:List AV}{av:AV}(hg:ge t g=some av)(hf:FnIs av gf caps)(hcap:caps.all AV.open=true)(hok:eI X.P gf)
 (hit:xy X.Λ X.P gf caps (L.map enc))(hfl:my t=true)(hps:ps.toList.all (fun p=>Nat.blt p X.N)=true)(hen:∀x,(enc x).length=ps.size)(hs:Wk (SS v0) σ)(h0:I [] v0)
 (round:∀l,kz enc L SS I Ix X.P X.Λ X.N l (X.pin++co t) ps.toList assign body t)
 (done:∀v,I L v→Q .normal t (SS v))(stop:∀c p v,Ix c p v→vc X c t (SS v) Q):WJ X (.rangeFunc g ps assign body) t σ Q:=by
 intro γ H a w s
 refine wpIn_rangeFunc ?_
 intro fn hfn
 obtain⟨us,hgv,hul,hur⟩:=hf.rep (aL s.tmp hg)
 have hps':∀p,p∈ps.toList→p<X.N:=fun p hp=>by have:=List.all_eq_true.1 hps p hp;simpa using this
 have key:∀(l D:Nat)(outer:Bool)(df:Nat)(mark:List Deferred)(W1:World),(Instr.enterLoop fn a.tmps ps assign body (Fr X.ro).round).run X.P w=.ok (l,mark) W1→w.heap.size≤l→(outer=true→w.heap.size≤D∧D≠l)→Keeps w (fun _=>False) W1→
  W1.heap[l]?=some (.loop {state:=.ready,pending:=none,fn:=fn,tmps:=a.tmps,params:=ps,assign:=assign,body:=body,defers:=df})→(outer=true→W1.heap[D]?=some (.deferred (some [])))→mark=(if outer=true then[{target:=.collected D,args:=#[]}]else[])→
  ∃(l:Nat)(mark:List Deferred)(w₁:World)(d:Deferred)(w₁':World)(f:FuncId)(args:Array Value)(w₂:World),
  (Instr.enterLoop fn a.tmps ps assign body (Fr X.ro).round).run X.P w=.ok (l,mark) w₁∧(resolve a.eval (rangeCall g l) 0).run X.P w₁=.ok d w₁'∧(∀f',Target.leads X.P w₁' d.target d.args=some f'→(Fr X.ro).fn f')∧
  (invoke d.target d.args).run X.P w₁'=.ok (.enter f args) w₂∧((Fr X.ro).depth.isSome=true→1≤0)∧CallsIn (Fr X.ro) (0-1) X.P f args w₂ (rangePost (Fr X.ro) 0 X.P l (qx X Q) {a with defers:=mark++a.defers}):=by
  intro l D outer df mark W1 he hl hD k1 hrec hdf hmark
  obtain⟨rc,hrc⟩:∃rc:LoopState→Option Code→Loop,rc=fun st pe=>{state:=st,pending:=pe,fn:=fn,tmps:=a.tmps,params:=ps,assign:=assign,body:=body,defers:=df}:=⟨_,rfl⟩
  have hDl:outer=true→D≠l:=fun ho=>(hD ho).2
  have hpn:∀i,i∈co t→i∈X.pin++co t:=fun i hi=>List.mem_append.2 (.inr hi)
  let O0:Nat→Prop:=fun b=>(∃i e,af i (SS v0)=some e∧Gv.blk γ i e b)∨b=l∨(outer=true∧b=D)
  let ρ:Res:=lH enc L SS I Ix (D:=D) (outer:=outer) (fn:=fn) (df:=df) (γe:=γ) (tmps:=a.tmps) s.size hps' hen hDl hfl hpn (round l)
  have hR0:=pv SS I Ix (rc:=rc) (pins:=X.pin++co t) s hs h0 hl hD k1 (by rw[hrc];exact hrec) hdf
  have hcan:Can ρ ([],none) (L.map enc):=n8 enc L SS I Ix s.size hps' hen hDl hfl hpn (round l) L [] rfl
  have hct:=hit ρ rfl rfl ([],none) hcan
  let γc:Ids:=upd γ 0 ⟨0,0,O0⟩
  have hblk:blks γc [(0,.res ρ ([],none))]=O0:=by
   funext b
   apply propext
   refine⟨fun⟨i,e,hi,hb⟩=>?_,fun hb=>⟨0,_,rfl,?_⟩⟩
   ·rw[ae]at hi
    split at hi
    ·next e'=>
     subst e'
     simp only[Option.some.injEq]at hi;subst hi
     simp only[blk,γc,ar]at hb;exact hb
    ·simp[af]at hi
   ·simp only[blk,γc,ar];exact hb
  have hz:=k1.size
  have hO0:∀b,O0 b→(∃i e,af i σ=some e∧Gv.blk γ i e b)∨w.heap.size≤b:=fun b hb=>by
   rcases hb with⟨i,e,hi,h⟩|rfl|⟨ho,rfl⟩
   ·exact .inl ⟨i,e,hs i e hi,h⟩
   ·exact .inr hl
   ·exact .inr (hD ho).1
  have hm:Mem W1 H (blks γc [(0,.res ρ ([],none))]) γc H [(0,.res ρ ([],none))] W1:=by
   rw[hblk]
   have one:∀j f,af j ([(0,Ent.res ρ ([],none))]:Sg)=some f→j=0∧f=.res ρ ([],none):=fun j f hj=>by
    rw[ae]at hj
    split at hj
    ·next e'=>exact⟨e',by simpa using hj.symm⟩
    ·simp[af]at hj
   have hH1:=ue s.mem.hok k1
   refine⟨Keeps.refl _ _,HLe.refl _,HNew.refl _ _ _,hH1,fun i e hi=>?_,fun i e hi b hb=>?_,fun i e hi b hb=>?_,fun i e j e' b hi hj hb hb'=>?_⟩
   ·obtain⟨rfl,rfl⟩:=one i e hi
    show ∃v γ',ROk SS I Ix l D outer _ _ γ t a.tmps ([],none) (γc 0).o H W1 v γ'
    refine⟨v0,γ,?_⟩
    rw[←hrc]
    simp only[γc,ar]
    exact hR0
   ·obtain⟨rfl,rfl⟩:=one i e hi
    simp only[blk,γc,ar]at hb
    rcases hO0 b hb with⟨i,e,hi,h⟩|h
    ·exact s.mem.free i e hi b h
    ·exact wd s.mem.hok h
   ·obtain⟨rfl,rfl⟩:=one i e hi
    simp only[blk,γc,ar]at hb
    exact .inr hb
   ·obtain⟨rfl,_⟩:=one i e hi;obtain⟨rfl,_⟩:=one j e' hj;rfl
  have hlam:Lam X.Λ W1 (blks γc [(0,.res ρ ([],none))]):=by
   rw[hblk]
   have h1:=s.lam.keep s.mem.keep (C:=fun b=>∃i e,af i σ=some e∧Gv.blk γ i e b) fun b ⟨i,e,hi,hb⟩=>(s.mem.fresh i e hi b hb).elim (fun h=>Nat.le_trans s.lam.2.1 h) (s.lam.2.2 b)
   refine⟨X.Λ.st h1.1 fun k hk=>k1.block k (Nat.lt_of_lt_of_le hk h1.2.1) (fun h=>h),Nat.le_trans h1.2.1 hz,fun b hb=>?_⟩
   rcases hO0 b hb with h|h
   ·exact h1.2.2 b h
   ·exact Nat.le_trans h1.2.1 h
  have hcall:=hct X.ro γc H W1 (.func (.yield l) #[] #[]::us) hlam hm (by simp[hul]) (fun j x u hx hu=>by
   cases j with
   |zero=>simp at hx hu;subst hx;subst hu;exact .d _ _ (.v _ rfl)
   |succ j=>exact(hur j x u (by simpa using hx) (by simpa using hu)).free (List.all_eq_true.1 hcap x (aJ (by simpa using hx))))
  refine⟨l,mark,W1,{target:=.fn (.func gf) us.toArray,args:=#[.func (.yield l) #[] #[]]},W1,gf,#[.func (.yield l) #[] #[]]++us.toArray,W1,he,?_,fun _ _=>trivial,?_,fun h=>by simp[Fr]at h,?_⟩
  ·simp only[resolve,hgv]
   simp[Deferred.ofValue,Act.eval]
  ·have:=hok (#[.func (.yield l) #[] #[]]++us.toArray) W1
   simpa[invoke]using this
  ·have hargs:(.func (.yield l) #[] #[]::us:List Value).toArray=#[.func (.yield l) #[] #[]]++us.toArray:=Array.toList_inj.1 (by simp)
   rw[hargs]at hcall
   refine hcall.mono ?_
   rintro e w3 ⟨vr,r,σ',γ',H',rfl,⟨b,s',hfeed,rfl⟩,_,_,_,hm3⟩
   rw[hblk]at hm3
   obtain⟨v',γ3,R⟩:∃v' γ3,ROk SS I Ix l D outer (fun st pe=>{state:=st,pending:=pe,fn:=fn,tmps:=a.tmps,params:=ps,assign:=assign,body:=body,defers:=df}) (X.pin++co t) γ t a.tmps s' (γ' 0).o H' w3 v' γ3:=hm3.ent 0 _ rfl
   rw[←hrc]at R
   have hrec3:=R.rcd
   have hend:=run_endLoop (P:=X.P) hrec3 (by rw[hrc];cases s'.2<;>simp)
   have hst:=tP (X:=X) SS I Ix (W1:=W1) (mark:=mark) (O0:=O0) s hs (fun i hi=>List.mem_append.2 (.inl hi)) (fun b hb=>hb) hl hD hmark k1 hm3 R
   refine⟨_,_,hend,?_⟩
   rcases kJ enc L SS I Ix s.size hps' hen hDl hfl hpn (round l) L [] b s' rfl hfeed with e|⟨q,c,e⟩
   ·subst e
    have hinv:I L v':=R.inv
    have:(rc .ready none).pending=none:=by rw[hrc]
    simp only[this]
    exact⟨γ3,H',t,SS v',hst _,done v' hinv⟩
   ·subst e
    have hinv:Ix c q v':=R.inv
    have:(rc .done (some c)).pending=some c:=by rw[hrc]
    simp only[this]
    exact ay _ _ _ _ (stop c q v' hinv) γ3 H' _ _ (hst _)
 cases hro:X.ro with
 |none=>
  have hr:(Fr X.ro).round=none:=by rw[hro];rfl
  refine hro▸key (w.heap.size+1) w.heap.size true w.heap.size [{target:=.collected w.heap.size,args:=#[]}] ((w.alloc (.deferred (some []))).alloc (.loop {state:=.ready,pending:=none,fn:=fn,tmps:=a.tmps,params:=ps,assign:=assign,body:=body,defers:=w.heap.size})) ?_ (by omega) (fun _=>⟨Nat.le_refl _,by omega⟩) ?_ ?_ (fun _=>?_) rfl
  ·rw[hr];exact run_enterLoop_outer _ _ _ _ _
  ·exact(eT w _).trans (eT _ _) (fun b h=>h.elim)
  ·have:=World.alloc_heap_new (w.alloc (.deferred (some []))) (.loop {state:=.ready,pending:=none,fn:=fn,tmps:=a.tmps,params:=ps,assign:=assign,body:=body,defers:=w.heap.size})
   rwa [World.size_alloc]at this
  ·rw[(eT _ _).block w.heap.size (by simp) (fun h=>h)];exact World.alloc_heap_new w _
 |some l0=>
  have hr:(Fr X.ro).round=some l0:=by rw[hro];rfl
  obtain⟨⟨r0,h1⟩,h2⟩:=s.round l0 hro
  have h3:=(s.mem.keep.block l0 (aA h1) h2).trans h1
  refine hro▸key w.heap.size 0 false r0.defers [] (w.alloc (.loop {state:=.ready,pending:=none,fn:=fn,tmps:=a.tmps,params:=ps,assign:=assign,body:=body,defers:=r0.defers})) ?_ (Nat.le_refl _) (fun h=>by cases h) (eT w _) (World.alloc_heap_new w _) (fun h=>by cases h) rfl
  rw[hr];exact run_enterLoop_inner h3 _ _ _ _ _
end
end Go.Gv
end
section
namespace Go.Gv
open Go.RowKit
theorem SJ.nilD {X:Cx}{t:T}{σ:Sg}(j k:Nat)(hj:af j t=some (.d (.v (.slice none 0 0)))):SJ X t σ ((j,.d (.sl k []))::t) σ:=
 SJ.view j hj fun γ H u r=>by
  obtain rfl:=aR r
  exact .d _ _ (.sl k [] none 0 0 0 (fun _ _=>undef) (fun _ h=>by simp at h) (Nat.le_refl _) (by simp) (fun h=>by simp at h) (fun _ _ h=>by simp at h) (fun _ _ _ _ h=>by simp at h))
theorem kE {γ:Ids}{H:HF}{vs:List AV}{u:Value}{j:Nat}{a a':AV}(r:Rep γ H (.tup vs) u)(hj:vs[j]?=some a)(h:∀u,Rep γ H a u→Rep γ H a' u):Rep γ H (.tup (vs.set j a')) u:=by
 cases r with
 |tup _ us hl hr=>
  refine .tup _ us (by simp[hl]) fun l b v hb hv=>?_
  rw[List.getElem?_set]at hb
  by_cases e:j=l
  ·subst e
   rw[if_pos rfl]at hb
   split at hb
   ·cases hb;exact h v (hr j a v hj hv)
   ·cases hb
  ·rw[if_neg e]at hb;exact hr l b v hb hv
theorem gv {γ:Ids}{H:HF}{vs:List AV}{u:Value}{j:Nat}{a a':AV}(r:Rep γ H (.agg vs) u)(hj:vs[j]?=some a)(h:∀u,Rep γ H a u→Rep γ H a' u):Rep γ H (.agg (vs.set j a')) u:=by
 cases r with
 |agg _ us hl hr=>
  refine .agg _ us (by simp[hl]) fun l b v hb hv=>?_
  rw[List.getElem?_set]at hb
  by_cases e:j=l
  ·subst e
   rw[if_pos rfl]at hb
   split at hb
   ·cases hb;exact h v (hr j a v hj hv)
   ·cases hb
  ·rw[if_neg e]at hb;exact hr l b v hb hv
theorem s7 {γ:Ids}{H:HF}{i k n:Nat}{xs:List (List D)}(hp:jL γ H i (.a k xs))(hn:n≤xs.length)(hm:n≤9223372036854775807){u:Value}(r:Rep γ H (.arr i k n) u):Rep γ H (.d (.sl k (xs.take n))) u:=by
 cases r with
 |arr _ _ _ A h1 hA=>exact .d _ _ (hp n A hn h1 hA hm)
theorem qG {X:Cx}{σ:Sg}{vs:List AV}{Q:AV→Sg→Prop}(i j:Nat){k n:Nat}{xs:List (List D)}(hi:af i σ=some (.arr k xs))(hj:vs[j]?=some (.arr i k n))(hn:n≤xs.length)(hm:n≤9223372036854775807)
 (kk:FinP X ((i,.gone)::σ) (.tup (vs.set j (.d (.sl k (xs.take n))))) Q):FinP X σ (.tup vs) Q:=
 let⟨σ',r',h1,hc,hq⟩:=kk
 ⟨σ',r',.pub i hi rfl (fun _ _ _ ok rr=>kE rr hj fun _=>s7 ok hn hm) (by rw[uY];exact h1),hc,hq⟩
theorem aw {X:Cx}{σ:Sg}{vs:List AV}{Q:AV→Sg→Prop}(j:Nat){a a':AV}(hj:vs[j]?=some a)(h:∀γ H u,Rep γ H a u→Rep γ H a' u)(kk:FinP X σ (.tup (vs.set j a')) Q):FinP X σ (.tup vs) Q:=
 FinP.view (fun γ H _ rr=>kE rr hj (h γ H)) kk
theorem bi {γ:Ids}{H:HF}(k:Nat){u:Value}(r:Rep γ H (.d (.v (.slice none 0 0))) u):Rep γ H (.d (.sl k [])) u:=by
 obtain rfl:=aR r
 exact .d _ _ (.sl k [] none 0 0 0 (fun _ _=>undef) (fun _ h=>by simp at h) (Nat.le_refl _) (by simp) (fun h=>by simp at h) (fun _ _ h=>by simp at h) (fun _ _ _ _ h=>by simp at h))
theorem kq {α V:Type}(enc:α→List AV)(L:List α)(S0:V→Sg)(ks:List Nat)(I:List α→V→Prop)(Ix:Code→List α→V→Prop)
 {X:Cx}{g:Operand}{ps:Array Nat}{assign body:Code}{t:T}{σ:Sg}{Q:Qt}(v0:V){gf:FuncId}{caps:List AV}{av:AV}{M:List (List AV)}(hit:xy X.Λ X.P gf caps M)(hM:M=L.map enc)(hg:ge t g=some av)(hf:FnIs av gf caps)(hcap:caps.all AV.open=true)(hok:eI X.P gf)
 (hfl:my t=true)(hps:ps.toList.all (fun p=>Nat.blt p X.N)=true)(hen:∀x,(enc x).length=ps.size)(hs:Has (S0 v0) σ)(h0:I [] v0)
 (round:∀l,kz enc L (fun v=>S0 v++eU ks σ) I Ix X.P X.Λ X.N l (X.pin++co t) ps.toList assign body t)
 (done:∀v,I L v→Q .normal t (S0 v++eU ks σ))(stop:∀c p v,Ix c p v→vc X c t (S0 v++eU ks σ) Q):WJ X (.rangeFunc g ps assign body) t σ Q:=
 uB enc L (fun v=>S0 v++eU ks σ) I Ix v0 hg hf hcap hok (hM▸hit) hfl hps hen (hs.wk.app (jq _ _)) h0 round done stop
end Go.Gv
end
section
namespace Go.Gv
open Go.RowKit
theorem qt {X:Cx}{t:T}{σ:Sg}(j off:Nat){cs:List AV}{a a':AV}(hj:af j σ=some (.cells cs))(ha:cs[off]?=some a)(h:∀γ H u,Rep γ H a u→Rep γ H a' u):SJ X t σ t ((j,.cells (cs.set off a'))::σ):=fun γ H ac w s=>by
 have he:=s.mem.ent j _ hj
 obtain⟨tt,us,h1,h2,h3⟩:=he
 have hm:Mem X.w0 X.H0 X.B γ H ((j,.cells (cs.set off a'))::σ) w:=by
  refine⟨s.mem.keep,s.mem.hle,s.mem.hnew,s.mem.hok,fun i e hi=>?_,fun i e hi b hb=>?_,fun i e hi b hb=>?_,fun i e k e' b hi hk hb hb'=>?_⟩
  ·rw[ae]at hi
   split at hi
   ·next e1=>
    subst e1;cases hi
    refine⟨tt,us,h1,by simp[h2],fun l x u hx hu=>?_⟩
    rw[List.getElem?_set]at hx
    split at hx
    ·next e2=>
     subst e2
     split at hx
     ·cases hx;exact h γ H u (h3 off a u ha hu)
     ·cases hx
    ·exact h3 l x u hx hu
   ·exact s.mem.ent i e hi
  ·rw[ae]at hi
   split at hi
   ·next e1=>subst e1;cases hi;exact s.mem.free _ _ hj b hb
   ·exact s.mem.free i e hi b hb
  ·rw[ae]at hi
   split at hi
   ·next e1=>subst e1;cases hi;exact s.mem.fresh _ _ hj b hb
   ·exact s.mem.fresh i e hi b hb
  ·have g:∀i e,af i ((j,Ent.cells (cs.set off a'))::σ)=some e→∀b,blk γ i e b→∃f,af i σ=some f∧blk γ i f b:=fun i e hi9 b hb9=>by
    rw[ae]at hi9
    split at hi9
    ·next e1=>subst e1;cases hi9;exact⟨_,hj,hb9⟩
    ·exact⟨e,hi9,hb9⟩
   obtain⟨f,hf,hfb⟩:=g i e hi b hb
   obtain⟨f',hf',hfb'⟩:=g k e' hk b hb'
   exact s.mem.apart i f k f' b hf hf' hfb hfb'
 have hbl:∀b,blks γ ((j,.cells (cs.set off a'))::σ) b→blks γ σ b:=fun b ⟨i,e,hi,hb⟩=>by
  rw[ae]at hi
  split at hi
  ·next e1=>subst e1;cases hi;exact⟨_,_,hj,hb⟩
  ·exact⟨i,e,hi,hb⟩
 exact⟨γ,H,s.lam,s.round,let⟨ms,h1,h2⟩:=s.defers;⟨ms,h1,h2.1,fun b hb=>⟨(h2.2 b hb).1,(h2.2 b hb).2.1,fun x=>(h2.2 b hb).2.2 (hbl b x)⟩⟩,s.size,s.pinned,s.tmp,hm⟩
theorem m8 {X:Cx}{t:T}{σ:Sg}(i j off k:Nat){cs:List AV}(hj:af j σ=some (.cells cs))(ha:cs[off]?=some (.d (.v (.slice none 0 0))))(hf:ao i t σ X.pin=true):SJ X t σ t ((j,.cells (cs.set off (.arr i k 0)))::(i,.arr k [])::σ):=fun γ H a w s=>by
 have key:=s.new (d:=none) (V:=.junk) (v:=undef) (n:=0) (lW s.mem.hok γ i k) hf rfl (.junk _)
 have hij:j≠i:=(bh hf hj).1
 have hn:(upd γ i ⟨w.heap.size,0,fun _=>False⟩ i).n=0:=by rw[ar]
 have he:=key.mem.ent j (.cells cs) (by rw[ae,if_neg hij];exact hj)
 obtain⟨tt,us,h1,h2,h3⟩:=he
 have hm:Mem X.w0 X.H0 X.B (upd γ i ⟨w.heap.size,0,fun _=>False⟩) H ((j,.cells (cs.set off (.arr i k 0)))::(i,.arr k [])::σ) w:=by
  have m:=key.mem
  have hj':af j ((i,Ent.arr k [])::σ)=some (.cells cs):=by rw[ae,if_neg hij];exact hj
  refine⟨m.keep,m.hle,m.hnew,m.hok,fun l e hl=>?_,fun l e hl b hb=>?_,fun l e hl b hb=>?_,fun l e l' e' b hl hl' hb hb'=>?_⟩
  ·rw[ae]at hl
   split at hl
   ·next e1=>
    subst e1;cases hl
    refine⟨tt,us,h1,by simp[h2],fun p x u hx hu=>?_⟩
    rw[List.getElem?_set]at hx
    split at hx
    ·next e2=>
     subst e2
     split at hx
     ·cases hx
      obtain rfl:=aR (h3 off _ u ha hu)
      have:=Rep.arr (γ:=upd γ i ⟨w.heap.size,0,fun _=>False⟩) (H:=H) i k 0 none (Nat.zero_le _) (fun h=>by rw[hn]at h;simp at h)
      rw[hn]at this;exact this
     ·cases hx
    ·exact h3 p x u hx hu
   ·exact m.ent l e hl
  ·rw[ae]at hl
   split at hl
   ·next e1=>subst e1;cases hl;exact m.free _ _ hj' b hb
   ·exact m.free l e hl b hb
  ·rw[ae]at hl
   split at hl
   ·next e1=>subst e1;cases hl;exact m.fresh _ _ hj' b hb
   ·exact m.fresh l e hl b hb
  ·have g:∀l e,af l ((j,Ent.cells (cs.set off (.arr i k 0)))::(i,.arr k [])::σ)=some e→∀b,blk (upd γ i ⟨w.heap.size,0,fun _=>False⟩) l e b→∃f,af l ((i,Ent.arr k [])::σ)=some f∧blk (upd γ i ⟨w.heap.size,0,fun _=>False⟩) l f b:=fun l e hl9 b hb9=>by
    rw[ae]at hl9
    split at hl9
    ·next e1=>subst e1;cases hl9;exact⟨_,hj',hb9⟩
    ·exact⟨e,hl9,hb9⟩
   obtain⟨f,hf,hfb⟩:=g l e hl b hb
   obtain⟨f',hf',hfb'⟩:=g l' e' hl' b hb'
   exact m.apart l f l' f' b hf hf' hfb hfb'
 refine⟨_,H,key.lam,key.round,?_,key.size,key.pinned,key.tmp,hm⟩
 obtain⟨ms,g1,g2,g3⟩:=key.defers
 refine⟨ms,g1,g2,fun b hb=>⟨(g3 b hb).1,(g3 b hb).2.1,fun⟨l,e,hl,hbb⟩=>(g3 b hb).2.2 ?_⟩⟩
 rw[ae]at hl
 split at hl
 ·next e1=>subst e1;cases hl;exact⟨l,.cells cs,by rw[ae,if_neg hij];exact hj,hbb⟩
 ·exact⟨l,e,hl,hbb⟩
theorem m7 {X:Cx}{t:T}{σ:Sg}(i j off:Nat){k n:Nat}{cs:List AV}{xs:List (List D)}(hi:af i σ=some (.arr k xs))(hj:af j σ=some (.cells cs))(ha:cs[off]?=some (.arr i k n))(hn:n≤xs.length)(hm:n≤9223372036854775807):
 SJ X t σ t ((j,.cells (cs.set off (.d (.sl k (xs.take n)))))::(i,.gone)::σ):=fun γ H a w s=>by
 obtain⟨H',hle,ok,s'⟩:=s.pub hi rfl
 rw[uY]at s'
 have hij:j≠i:=fun e=>by subst e;rw[hi]at hj;cases hj
 have hj':af j ((i,Ent.gone)::σ)=some (.cells cs):=by rw[ae,if_neg hij];exact hj
 obtain⟨tt,us,h1,h2,h3⟩:=s'.mem.ent j _ hj'
 have hm':Mem X.w0 X.H0 X.B γ H' ((j,.cells (cs.set off (.d (.sl k (xs.take n)))))::(i,.gone)::σ) w:=by
  have m:=s'.mem
  refine⟨m.keep,m.hle,m.hnew,m.hok,fun l e hl=>?_,fun l e hl b hb=>?_,fun l e hl b hb=>?_,fun l e l' e' b hl hl' hb hb'=>?_⟩
  ·rw[ae]at hl
   split at hl
   ·next e1=>
    subst e1;cases hl
    refine⟨tt,us,h1,by simp[h2],fun p x u hx hu=>?_⟩
    rw[List.getElem?_set]at hx
    split at hx
    ·next e2=>
     subst e2
     split at hx
     ·cases hx;exact s7 ok hn hm (h3 off _ u ha hu)
     ·cases hx
    ·exact h3 p x u hx hu
   ·exact m.ent l e hl
  ·rw[ae]at hl
   split at hl
   ·next e1=>subst e1;cases hl;exact m.free _ _ hj' b hb
   ·exact m.free l e hl b hb
  ·rw[ae]at hl
   split at hl
   ·next e1=>subst e1;cases hl;exact m.fresh _ _ hj' b hb
   ·exact m.fresh l e hl b hb
  ·have g:∀l e,af l ((j,Ent.cells (cs.set off (.d (.sl k (xs.take n)))))::(i,.gone)::σ)=some e→∀b,blk γ l e b→∃f,af l ((i,Ent.gone)::σ)=some f∧blk γ l f b:=fun l e hl9 b hb9=>by
    rw[ae]at hl9
    split at hl9
    ·next e1=>subst e1;cases hl9;exact⟨_,hj',hb9⟩
    ·exact⟨e,hl9,hb9⟩
   obtain⟨f,hf,hfb⟩:=g l e hl b hb
   obtain⟨f',hf',hfb'⟩:=g l' e' hl' b hb'
   exact m.apart l f l' f' b hf hf' hfb hfb'
 refine⟨γ,H',s'.lam,s'.round,?_,s'.size,s'.pinned,s'.tmp,hm'⟩
 obtain⟨ms,g1,g2,g3⟩:=s'.defers
 refine⟨ms,g1,g2,fun b hb=>⟨(g3 b hb).1,(g3 b hb).2.1,fun⟨l,e,hl,hbb⟩=>(g3 b hb).2.2 ?_⟩⟩
 rw[ae]at hl
 split at hl
 ·next e1=>subst e1;cases hl;exact⟨l,.cells cs,hj',hbb⟩
 ·exact⟨l,e,hl,hbb⟩
end Go.Gv
end
section
namespace Go.Gv
open Go.RowKit
def kf:List Nat→T→T
 |[],t=>t
 |i::l,t=>kf l (ip i t)
def gH:List Nat→Sg→Sg
 |[],σ=>σ
 |i::l,σ=>gH l (eA i σ)
theorem St.drops {X:Cx}{γ:Ids}{H:HF}{a:Act}{w:World}:∀(l:List Nat){t:T}{σ:Sg},St X γ H t σ a w→St X γ H (kf l t) (gH l σ) a w
 |[],_,_,s=>s
 |i::l,_,_,s=>St.drops l (s.drop i)
section call
variable {X:Cx} {d:Option Nat} {ty:TypeId} {pos:String} {aft:Array Edge} {g:Option (Nat×Bool)} {t:T} {σ:Sg} {K:T→Sg→Prop}
theorem OpJ.callD (ds:List Nat){f:FuncId}{args:Array Operand}{tys:Array TypeId}{avs:List AV}{σL:Sg}{Q:AV→Sg→Prop}(hc:Ct X.Λ X.P f avs σL Q)(hok:eI X.P f)(hN:dOk d X.N=true)
 (ha:gj t args.toList=some avs)(hs:Wk σL (gH ds σ))(k:∀r σ',Q r σ'→uV σ' σL (kf ds t) (gH ds σ) X.pin=true∧K (putT d r (kf ds t)) (σ'++al σL (gH ds σ))):
 OpJ X ⟨d,.call {callee:=.value (.func f),args:=args,argTypes:=tys},ty,pos,aft,g⟩ t σ K:=by
 intro γ H a w s0 next Q' hk
 rw[aD (by simp),mR hok,Oper.uponIn_enter]
 refine⟨fun h=>by simp[Fr]at h,?_⟩
 have s:=s0.drops ds
 have:=hc X.ro γ H w (args.map a.eval).toList (s.lamAt σL hs) (s.mem.wk hs).self (by have:=congrArg List.length (bp ha);simpa using this) (by
  have:=eV (γ:=γ) (H:=H) (a:=a) (fun x _ v hv=>aL s0.tmp hv) (bp ha)
  simpa using this)
 simp only[Array.toArray_toList]at this
 refine this.mono ?_
 rintro e w' ⟨v,r,σ',γ',H',rfl,hq,hr,hag,hpin,hm⟩
 obtain⟨htk,hK⟩:=k r σ' hq
 have tk:∀j e,af j σ'=some e→(∃e,af j σL=some e∧e.var=true)∨ao j (kf ds t) (al σL (gH ds σ)) X.pin=true:=fun j e hj=>by
  have:=List.all_eq_true.1 htk _ (dC hj)
  rcases Bool.or_eq_true_iff.1 this with h|h
  ·left
   unfold k9 at h
   split at h
   ·next e hcs=>exact⟨e,hcs,h⟩
   ·cases h
  ·exact .inr h
 have same:∀j,(∀e,af j σ'=some e→ao j (kf ds t) (al σL (gH ds σ)) X.pin=true→False)→γ j=γ' j:=fun j hj=>by
  cases hx:af j σ' with
  |none=>exact hag j hx
  |some e=>
   rcases tk j e hx with⟨e',h,hv⟩|h
   ·exact hpin j e' h hv
   ·exact(hj e hx h).elim
 refine hk γ' H' _ _ _ w' (s.step (σr:=al σL (gH ds σ)) hm (fun b hb=>oT hs hb) kW (fun i e hi=>?_) (fun i e hi=>⟨same i fun f _ hf=>?_,fun j hj=>same j fun f _ hf=>?_⟩) (fun i hi=>same i fun f _ hf=>?_) (fun i x hi j hj=>same j fun f _ hf=>?_) hN hr) hK
 ·cases hx:af i σ' with
  |none=>rfl
  |some f=>
   rcases tk i f hx with⟨e',h,hv⟩|h
   ·rw[d9,h]at hi;cases hi
   ·exact absurd rfl (bh h hi).1
 ·exact(bh hf hi).1 rfl
 ·have:=(bh hf hi).2;rw[hj]at this;cases this
 ·exact jy hf hi rfl
 ·have:=eW hf hi;rw[hj]at this;cases this
end call
end Go.Gv
end
section
namespace Go.Gv
open Go.RowKit
section append
variable {X:Cx} {d:Option Nat} {ty:TypeId} {pos:String} {aft:Array Edge} {g:Option (Nat×Bool)} {t:T} {σ:Sg} {K:T→Sg→Prop}
theorem uG {x y:Operand}{st xt el:TypeId}{i k n bytes:Nat}{z:Value}{xs ys:List (List D)}{av:AV}(hN:dOk d X.N=true)(hx:ge t x=some (.arr i k n))(hy:ge t y=some av)(hi:af i σ=some (.arrT el k xs))(hn:xs.length=n)(hel:elems av=some (k,ys))
 (hu:X.P.underlying st=some (.slice el))(hxu:X.P.underlying xt=some (.slice el))(hz:∀w,(sizeOf el).run X.P w=.ok k w)(hzv:∀w,(zeroValue el).run X.P w=.ok z w)(hzl:z.cells.size=k)
 (hb:∀w,((fun i:TypeInfo=>i.bytes) <$>typeInfo el).run X.P w=.ok bytes w)(hb0:bytes≠0)(hbytes:(3*(n+ys.length)+4096)*bytes≤281474976710656)(hpin:i∉X.pin)
 (kk:K (putT d (.arr i k (n+ys.length)) (ip i t)) ((i,.arrT el k (xs++ys))::eA i σ)):
 OpJ X ⟨d,.call {callee:=.builtin .append,args:=#[x,y],argTypes:=#[st,xt]},ty,pos,aft,g⟩ t σ K:=by
 intro γ H a w s next Q' hk
 have hr:=aL s.tmp hx
 generalize hq:a.eval x=q at hr
 cases hr with
 |arr _ _ _ A hncap hA=>
 have hry:=cN (aL s.tmp hy) hel
 obtain⟨hyk,hylen⟩:=cd hry
 obtain⟨B,cy,vs,hqy,hfc,hvl,hvone,hvrep⟩:=dh (P:=X.P) hry
 obtain⟨hle,hxk,hreal⟩:=s.mem.ent i _ hi
 have hexec:∀r:Result Value,(Builtin.append_ #[st,xt] ty #[.slice A n (γ i).n,a.eval y]).run X.P w=r→(execOp a.eval ⟨d,.call {callee:=.builtin .append,args:=#[x,y],argTypes:=#[st,xt]},ty,pos,aft,g⟩).run X.P w=
  r.andThen fun v w=>.ok (.value v) w:=fun r h=>by
  simp only[execOp,resolve,invoke,builtin,List.map_toArray,List.map_cons,List.map_nil,Sem.run_bind,Sem.run_pure,Result.andThen_ok,hq,h]
 have s1:=s.drop i
 have hi1:af i (eA i σ)=some (.arrT el k xs):=by rw[eA,gC,hi];rfl
 subst hn
 by_cases hroom:xs.length+ys.length≤(γ i).n
 ·have hrun:=dH (P:=X.P) (w:=w) (ty:=ty) (A:=A) (n:=xs.length) (c:=(γ i).n) hu hxu hz (fun w=>by rw[hqy];exact cU) (hfc w s.mem.hok.c) hroom
  by_cases hc0:0<(γ i).n
  ·have hA':=hA hc0
   subst hA'
   obtain⟨us,h3,h4,h5⟩:=hreal hc0
   have hfit:xs.length*k+0+vs.length≤us.length:=by
    rw[h4,hvl,Nat.add_zero,←Nat.add_mul];exact Nat.mul_le_mul_right _ hroom
   obtain⟨w',hw1,hw2,hw3⟩:=fo (P:=X.P) vs w us (xs.length*k) 0 h3 hfit hvone
   simp only[gc,Nat.zero_add,hw1,Result.andThen_ok]at hrun
   rw[aD (by simp),hexec _ hrun,Result.andThen_ok,Oper.uponIn_value]
   simp only[Nat.add_zero]at hw2 hfit
   have he:EntOk γ H w' i (.arrT el k (xs++ys)):=⟨by rw[List.length_append];exact hroom,fun cs hcs=>by rcases List.mem_append.1 hcs with h|h;exact hxk cs h;exact hyk cs h,fun _=>⟨_,hw2,by rw[bK];exact h4,
    eK hxk hyk h5 hvrep (fun p hp=>by rw[fq _ _ _ _ hfit,if_neg (by omega)]) (fun p hp=>by rw[fq _ _ _ _ hfit,if_pos (by omega)];congr 1;omega)⟩⟩
   have hm:=s1.mem.turn (e:=.arrT el k xs) (e':=.arrT el k (xs++ys)) hi1 ⟨rfl,hc0⟩ hw3 he fun b hb=>hb.1
   exact hk γ H _ _ _ w' (s1.turn (d:=d) (V:=.arr i k (xs.length+ys.length)) hi1 ⟨rfl,hc0⟩ hm hN (.arr i k _ _ hroom fun _=>rfl)) kk
  ·have hx0:xs.length=0:=by omega
   have hy0:ys.length=0:=by omega
   have hx0':xs=[]:=List.length_eq_zero_iff.1 hx0
   have hy0':ys=[]:=List.length_eq_zero_iff.1 hy0
   subst hx0';subst hy0'
   have hv0:vs=[]:=List.length_eq_zero_iff.1 (by rw[hvl];simp)
   subst hv0
   have hrun':(Builtin.append_ #[st,xt] ty #[.slice A 0 (γ i).n,a.eval y]).run X.P w=.ok (.slice A 0 (γ i).n) w:=by
    simp only[List.length_nil]at hrun
    rw[hrun];cases A<;>simp[storeCells]
   rw[aD (by simp),hexec _ hrun',Result.andThen_ok,Oper.uponIn_value]
   have key:=s1.calm (d:=d) (V:=.arr i k 0) (v:=.slice A 0 (γ i).n) (s1.mem.refl γ) hN (.arr i k 0 A (Nat.zero_le _) hA)
   exact hk γ H _ _ _ w (key.wk (Wk.refl _) (Wk.cons hi1 (Wk.refl _))) kk
 ·have hs:∃us:List Value,us.length=xs.length*k∧(∀w':World,w'.heap=w.heap→(Builtin.firstCells k xs.length (.slice A xs.length (γ i).n)).run X.P w'=.ok us.toArray w')∧
   ∀(j l:Nat)(cs:List D)(a:D)(u:Value),xs[j]?=some cs→cs[l]?=some a→us[j*k+l]?=some u→RepD H a u:=by
   by_cases hc0:0<(γ i).n
   ·have hA':=hA hc0
    subst hA'
    obtain⟨us,h3,h4,h5⟩:=hreal hc0
    have hlt:xs.length*k≤us.length:=by rw[h4];exact Nat.mul_le_mul_right _ hle
    refine⟨us.take (xs.length*k),by simp;omega,fun w' hw'=>?_,fun j l cs a u hj hl hu=>?_⟩
    ·have:=cF (P:=X.P) (w:=w') (b:=(γ i).b) (vs:=fun p=>us.getD p undef) (xs.length*k) 0 0 #[] (fun p hp=>by
      have h6:w'.heap[(γ i).b]?=some (.cells us.toArray el (0,0)):=by rw[hw'];exact h3
      rw[aN h6];simp[List.getElem?_eq_getElem (show p<us.length by omega)])
     simp only[Builtin.firstCells,loadCells]
     rw[this]
     congr 1
     apply Array.toList_inj.1
     simp only[List.nil_append,List.append_toArray,List.toList_toArray,Array.toList_append]
     apply List.ext_getElem?
     intro p
     simp only[List.getElem?_map,List.getElem?_take]
     by_cases hp:p<xs.length*k
     ·rw[if_pos hp,List.getElem?_range' (by omega)]
      simp[List.getElem?_eq_getElem (show p<us.length by omega)]
     ·rw[if_neg hp,List.getElem?_eq_none (by simp;omega)];rfl
    ·rw[List.getElem?_take]at hu
     split at hu
     ·exact h5 j l cs a u hj hl hu
     ·cases hu
   ·have hx0':xs=[]:=List.length_eq_zero_iff.1 (by omega)
    subst hx0'
    refine⟨[],by simp,fun w' _=>?_,by simp⟩
    cases A<;>simp[Builtin.firstCells,loadCells,loadCellsFrom]
  obtain⟨us,hul,hus,hurep⟩:=hs
  have hfc':∀w':World,w'.heap=w.heap→(Builtin.firstCells k ys.length (a.eval y)).run X.P w'=.ok vs.toArray w':=fun w' hw'=>hfc w' fun b o v h=>by
   have:=s.mem.hok.c b o v h
   simp only[World.cell?,hw']at this ⊢;exact this
  obtain⟨cap,hcap,hrun⟩:=dI (P:=X.P) (w:=w) (ty:=ty) (A:=A) (n:=xs.length) (c:=(γ i).n) (us:=us) (vs:=vs) hu hxu hz hzv hb (fun w=>by rw[hqy];exact cU) hfc' hus (by omega) hbytes hb0
  rw[aD (by simp),hexec _ hrun,Result.andThen_ok,Oper.uponIn_value]
  have hzc:(Builtin.zeroCells z.cells (cap-(xs.length+ys.length))).toList.length=(cap-(xs.length+ys.length))*k:=by
   simp[Builtin.zeroCells,hzl]
  have hm:=s.mem.drew.new i (.arrT el k (xs++ys)) (.cells (us++vs++(Builtin.zeroCells z.cells (cap-(xs.length+ys.length))).toList).toArray el) cap
   ⟨by rw[ar,List.length_append];exact hcap,fun cs hcs=>by rcases List.mem_append.1 hcs with h|h;exact hxk cs h;exact hyk cs h,fun _=>by
    rw[ar]
    refine⟨_,World.alloc_heap_new _ _,?_,?_⟩
    ·rw[List.length_append,List.length_append,hzc,hul,hvl,←Nat.add_mul,←Nat.add_mul]
     congr 1
     show xs.length+ys.length+(cap-(xs.length+ys.length))=cap
     omega
    ·refine eK hxk hyk hurep hvrep (fun p hp=>?_) (fun p hp=>?_)
     ·rw[List.append_assoc,List.getElem?_append_left (by omega)]
     ·rw[List.append_assoc,List.getElem?_append_right (by omega),hul,show xs.length*k+p-xs.length*k=p from by omega,List.getElem?_append_left (by omega)]⟩ (fun _ _ h=>by cases h)
  have hm':Mem w H (fun _=>False) (upd γ i ⟨w.heap.size,cap,fun _=>False⟩) H [(i,.arrT el k (xs++ys))] (w.drew.alloc (.cells (us++vs++(Builtin.zeroCells z.cells (cap-(xs.length+ys.length))).toList).toArray el)):=
   ⟨⟨hm.keep.os,hm.keep.tape,hm.keep.output,hm.keep.size,hm.keep.block⟩,hm.hle,⟨hm.hnew.c,hm.hnew.m⟩,hm.hok,hm.ent,hm.free,hm.fresh,hm.apart⟩
  refine hk _ H _ _ _ _ (s.moved hi hpin hm' (V:=.arr i k (xs.length+ys.length)) hN ?_) kk
  have:=Rep.arr (γ:=upd γ i ⟨w.heap.size,cap,fun _=>False⟩) (H:=H) i k (xs.length+ys.length) (some ⟨w.heap.size,0,none⟩)
  rw[ar]at this
  exact this hcap (fun _=>rfl)
theorem iP {x y:Operand}{st xt el:TypeId}{i k n:Nat}{xs ys:List (List D)}{av:AV}(hN:dOk d X.N=true)(hx:ge t x=some (.arr i k n))(hy:ge t y=some av)(hi:af i σ=some (.arrT el k xs))(hel:elems av=some (k,ys))(hI:gG X.P st xt=some k)(hu:X.P.underlying st=some (.slice el))
 (hpin:X.pin.all (fun j=>!Nat.beq i j)=true)(hn:xs.length=n)(hb:n+ys.length≤1000000000)
 (kk:K (putT d (.arr i k (n+ys.length)) (ip i t)) ((i,.arrT el k (xs++ys))::eA i σ)):
 OpJ X ⟨d,.call {callee:=.builtin .append,args:=#[x,y],argTypes:=#[st,xt]},ty,pos,aft,g⟩ t σ K:=by
 obtain⟨el',z,bytes,h1,h2,h3,h4,h5,h6,h7,h8⟩:=ez hI
 have he:el'=el:=by rw[hu]at h1;simpa using h1.symm
 subst he
 refine uG hN hx hy hi hn hel h1 h2 h3 h4 h5 h6 h7 (fI hb h8) (fun hp=>?_) kk
 have:=List.all_eq_true.1 hpin i hp
 simp at this
end append
end Go.Gv
end
section
namespace Go.Gv
open Go.RowKit
section str
variable {X:Cx} {d:Option Nat} {ty:TypeId} {pos:String} {aft:Array Edge} {g:Option (Nat×Bool)} {t:T} {σ:Sg} {K:T→Sg→Prop}
theorem vg {γ:Ids}{H:HF}{a:AV}{u:Value}(h:Rep γ H a u):Rep γ H (.tup [a]) (.tuple #[u]):=by
 refine .tup [a] [u] rfl fun j b v h1 h2=>?_
 match j,h1,h2 with
 |0,h1,h2=>simp at h1 h2;subst h1;subst h2;exact h
theorem ve {γ:Ids}{H:HF}{a b c:AV}{u v w:Value}(h1:Rep γ H a u)(h2:Rep γ H b v)(h3:Rep γ H c w):Rep γ H (.tup [a,b,c]) (.tuple #[u,v,w]):=by
 refine .tup [a,b,c] [u,v,w] rfl fun j x y e1 e2=>?_
 match j,e1,e2 with
 |0,e1,e2=>simp at e1 e2;subst e1;subst e2;exact h1
 |1,e1,e2=>simp at e1 e2;subst e1;subst e2;exact h2
 |2,e1,e2=>simp at e1 e2;subst e1;subst e2;exact h3
theorem w7 {i:Nat}{xt:TypeId}{x:Operand}{s:ByteArray}(hx:ge t x=some (.d (.v (.string s))))(hu:X.P.underlying xt=some .string)(hf:ao i t σ X.pin=true)(hN:dOk (some i) X.N=true)
 (k:K ((i,.box i 0)::t) ((i,.obj (.stringIter s 0))::σ)):OpJ X ⟨some i,.range xt x,ty,pos,aft,g⟩ t σ K:=by
 intro γ H a w st next Q' hk
 have hq:=aR (aL st.tmp hx)
 have hrun:(execOp a.eval ⟨some i,.range xt x,ty,pos,aft,g⟩).run X.P w=.ok (.value (.pointer (some ⟨w.heap.size,0,none⟩))) (w.alloc (.stringIter s 0)):=by
  simp[execOp,Instr.range,hq,run_underlying hu]
 rw[aD (by simp),hrun,Oper.uponIn_value]
 have hm:=st.mem.new i (.obj (.stringIter s 0)) (.stringIter s 0) 0 (by simp only[EntOk,ar];exact World.alloc_heap_new _ _) (fun _ _ h=>by cases h)
 refine hk _ H _ _ _ _ (st.new (d:=some i) (V:=.box i 0) hm hf hN ?_) k
 have:=Rep.box (γ:=upd γ i ⟨w.heap.size,0,fun _=>False⟩) (H:=H) i 0
 rw[ar]at this;exact this
theorem o4 {j p:Nat}{x:Operand}{s:ByteArray}(hx:ge t x=some (.box j 0))(hj:af j σ=some (.obj (.stringIter s p)))(hlt:p<s.size)(hN:dOk d X.N=true)
 (k:K (putT d (.tup [.d (.v (.bool true)),.d (.v (.int .i64 p)),.d (.v (.int .i32 (Utf8.decode s p).1))]) t) ((j,.obj (.stringIter s (p+(Utf8.decode s p).2)))::σ)):OpJ X ⟨d,.next x true,ty,pos,aft,g⟩ t σ K:=by
 intro γ H a w st next Q' hk
 have hr:=aL st.tmp hx
 generalize hq:a.eval x=q at hr
 cases hr with
 |box _ _=>
 have he:w.heap[(γ j).b]?=some (.stringIter s p):=st.mem.ent j _ hj
 have hrun:(execOp a.eval ⟨d,.next x true,ty,pos,aft,g⟩).run X.P w=.ok (.value (.tuple #[.bool true,.int .i64 p,.int .i32 (Utf8.decode s p).1])) (w.putObj (γ j).b (.stringIter s (p+(Utf8.decode s p).2))):=by
  simp[execOp,Instr.next,hq,getObj,setObj,Sem.run,he,hlt,World.putObj,goInt]
 rw[aD (by simp),hrun,Oper.uponIn_value]
 have hlt':=aA he
 have hs:SameBut (γ j).b w (w.putObj (γ j).b (.stringIter s (p+(Utf8.decode s p).2))):=⟨rfl,rfl,rfl,by simp,fun b hb=>World.putObj_heap_other hb⟩
 have hm:=st.mem.turn (e':=.obj (.stringIter s (p+(Utf8.decode s p).2))) hj rfl hs (by simp[EntOk,World.putObj,hlt']) fun b hb=>hb
 exact hk γ H _ _ _ _ (st.turn (d:=d) hj rfl hm hN (ve (.d _ _ (.v _ rfl)) (.d _ _ (.v _ rfl)) (.d _ _ (.v _ rfl)))) k
theorem yP {j p:Nat}{x:Operand}{s:ByteArray}(hx:ge t x=some (.box j 0))(hj:af j σ=some (.obj (.stringIter s p)))(hge:s.size≤p)(hN:dOk d X.N=true)
 (k:K (putT d (.tup [.d (.v (.bool false))]) t) σ):OpJ X ⟨d,.next x true,ty,pos,aft,g⟩ t σ K:=by
 intro γ H a w st next Q' hk
 have hr:=aL st.tmp hx
 generalize hq:a.eval x=q at hr
 cases hr with
 |box _ _=>
 have he:w.heap[(γ j).b]?=some (.stringIter s p):=st.mem.ent j _ hj
 have hn:¬p<s.size:=by omega
 have hrun:(execOp a.eval ⟨d,.next x true,ty,pos,aft,g⟩).run X.P w=.ok (.value (.tuple #[.bool false])) w:=by
  simp[execOp,Instr.next,hq,getObj,Sem.run,he,hn]
 rw[aD (by simp),hrun,Oper.uponIn_value]
 exact hk γ H _ _ _ _ (st.calm (d:=d) (st.mem.refl γ) hN (vg (.d _ _ (.v _ rfl)))) k
end str
end Go.Gv
end
