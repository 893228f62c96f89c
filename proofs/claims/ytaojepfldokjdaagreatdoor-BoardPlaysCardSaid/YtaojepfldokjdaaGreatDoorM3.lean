/- Laws that the claim's text stands on: part M3 of them. -/
import Derived.Test.YtaojepfldokjdaaGreatDoorM1
import Derived.Test.YtaojepfldokjdaaGreatDoorM2
import Derived.Laws.BytesString
import Derived.Lib.LaidTab
import Derived.Lib.AppendIntMem
import Derived.OpenShut
import Derived.ChangeOld
import Derived.SizedLaws
import Derived.Deep.Slices
import Derived.WideShapes
import Derived.RangeFuncNested
set_option linter.unusedVariables false
set_option linter.unusedSimpArgs false
section
namespace Go.Gv
open Go.RowKit
def gV:Value→Value→Option Bool
 |.int k a,.int k' b=>(match kEq k k' with|true=>some (decide (a=b))|false=>none)
 |.string ⟨⟨a⟩⟩,.string ⟨⟨b⟩⟩=>some (decide (a=b))
 |_,_=>none
def ew (P:Program)(kt:TypeId)(key:Value):Bool:=match und P kt,key with
 |some (.int _),.int _ _=>true
 |some .string,.string _=>true
 |_,_=>false
theorem zN {P:Program}{kt:TypeId}{key x:Value}{b:Bool}(h:ew P kt key=true)(hc:gV key x=some b):∃d,P.underlying kt=some d∧Instr.sameNow d key x=some b:=by
 simp only[ew,bT]at h
 split at h
 ·next j k a hu=>
  refine⟨_,hu,?_⟩
  cases x with
  |int k' b'=>
   simp only[gV]at hc
   split at hc
   ·next hk=>
    have:=n0 hk;subst this
    simp only[Option.some.injEq]at hc;subst hc
    simp only[Instr.sameNow,if_true];congr 1
   ·cases hc
  |_=>simp[gV]at hc
 ·next s hu=>
  refine⟨_,hu,?_⟩
  cases x with
  |string s'=>
   obtain⟨⟨a⟩⟩:=s
   obtain⟨⟨b'⟩⟩:=s'
   simp only[gV,Option.some.injEq]at hc;subst hc
   simp only[Instr.sameNow]
   congr 1
   by_cases e:a=b'
   ·subst e;rw[decide_eq_true rfl];show(Array.mk a==Array.mk a)=true;simp
   ·rw[decide_eq_false e];show(Array.mk a==Array.mk b')=false;simp[e]
  |_=>simp[gV]at hc
 ·cases h
theorem sV {key x:Value}{n:Nat}(hc:gV key x=some true):Instr.sameBits (n+1) x key=true∧key=x:=by
 cases key<;>cases x<;>simp only[gV]at hc<;>try (cases hc)
 ·next k a k' b=>
  split at hc
  ·next hk=>
   have:=n0 hk;subst this
   simp only[Option.some.injEq,decide_eq_true_eq]at hc;subst hc
   simp[Instr.sameBits]
  ·cases hc
 ·next s s'=>
  obtain⟨⟨a⟩⟩:=s
  obtain⟨⟨b⟩⟩:=s'
  simp only[gV,Option.some.injEq,decide_eq_true_eq]at hc
  subst hc
  refine⟨?_,rfl⟩
  show(Array.mk a==Array.mk a)=true;simp
abbrev lj (key:Value)(ks:List Value):Prop:=∀(i:Nat)(x:Value),ks[i]?=some x→gV key x=some false
abbrev mG (key:Value)(ks:List Value)(j:Nat):Prop:=(∃x:Value,ks[j]?=some x∧gV key x=some true)∧∀(i:Nat)(x:Value),i<j→ks[i]?=some x→gV key x=some false
theorem vw {P:Program}{kt:TypeId}{key:Value}(hk:ew P kt key=true):∃d,P.underlying kt=some d∧∀x b,gV key x=some b→Instr.sameNow d key x=some b:=by
 have hd:∃d,P.underlying kt=some d:=by
  simp only[ew,bT]at hk
  split at hk
  ·exact⟨_,by assumption⟩
  ·exact⟨_,by assumption⟩
  ·cases hk
 obtain⟨d,hd⟩:=hd
 exact⟨d,hd,fun x b h=>by
  obtain⟨d',h1,h2⟩:=zN hk h
  rw[hd]at h1;cases h1;exact h2⟩
theorem ow {d:TypeDesc}{key:Value}(same:∀x b,gV key x=some b→Instr.sameNow d key x=some b):∀(es:List MapEntry)(n:Nat),lj key (es.map (·.key))→Instr.findNow d key es n=some none
 |[],n,_=>rfl
 |e::es,n,h=>by
  simp only[Instr.findNow,same _ _ (h 0 e.key (by simp))]
  exact ow same es (n+1) fun i x hx=>h (i+1) x (by simpa using hx)
theorem oz {d:TypeDesc}{key:Value}(same:∀x b,gV key x=some b→Instr.sameNow d key x=some b):∀(es:List MapEntry)(n j:Nat)(e:MapEntry),mG key (es.map (·.key)) j→es[j]?=some e→Instr.findNow d key es n=some (some (n+j,e.val))
 |[],n,j,e,_,h=>by simp at h
 |e0::es,n,0,e,h,he=>by
  obtain⟨⟨x,hx,hc⟩,_⟩:=h
  simp at hx he;subst hx;subst he
  simp only[Instr.findNow,same _ _ hc];simp
 |e0::es,n,j+1,e,h,he=>by
  simp only[Instr.findNow,same _ _ (h.2 0 e0.key (by omega) (by simp))]
  rw[oz same es (n+1) j e ⟨by obtain⟨⟨x,hx,hc⟩,_⟩:=h;exact⟨x,by simpa using hx,hc⟩,fun i x hi hx=>h.2 (i+1) x (by omega) (by simpa using hx)⟩ (by simpa using he)]
  congr 3;omega
theorem e7 {P:Program}{kt:TypeId}{key:Value}{em:Bool}{n:Nat}{w:World}(hk:ew P kt key=true):(Instr.checkKey em (n+1) kt key).run P w=.ok () w:=by
 simp only[ew,bT]at hk
 split at hk
 ·next hu=>simp[Instr.checkKey,underlying,hu]
 ·next hu=>simp[Instr.checkKey,underlying,hu]
 ·cases hk
theorem oA {P:Program}{kt:TypeId}{key:Value}{es:List MapEntry}{w:World}(hk:ew P kt key=true)(hr:lj key (es.map (·.key))):(Instr.findKey kt key es).run P w=.ok none w:=by
 obtain⟨d,hd,same⟩:=vw hk
 simp only[Instr.findKey,Sem.run_bind,run_underlying hd,Result.andThen_ok,ow same es 0 hr,Sem.run_pure]
theorem oB {P:Program}{kt:TypeId}{key:Value}{es:List MapEntry}{j:Nat}{e:MapEntry}{w:World}(hk:ew P kt key=true)(hr:mG key (es.map (·.key)) j)(he:es[j]?=some e):(Instr.findKey kt key es).run P w=.ok (some (j,e.val)) w:=by
 obtain⟨d,hd,same⟩:=vw hk
 have:=oz same es 0 j e hr he
 rw[Nat.zero_add]at this
 simp only[Instr.findKey,Sem.run_bind,run_underlying hd,Result.andThen_ok,this,Sem.run_pure]
def su (σ:Sg):AV→Option (Bool×List Value×List (List D))
 |.mp i=>(match look i σ with
  |some (.mp ag ks vs)=>some (ag,ks,vs)
  |_=>none)
 |.d (.mp ag ks vs)=>some (ag,ks,vs)
 |.d (.v (.map none))=>some (false,[],[])
 |_=>none
theorem MapRep.keys {H:HF}{ag:Bool}{ks:List Value}{vs:List (List D)}{es:Array MapEntry}{us:Nat→List Value}(h:MapRep H ag ks vs es us):es.toList.map (·.key)=ks:=by
 apply List.ext_getElem?
 intro j
 rw[List.getElem?_map]
 cases he:es.toList[j]? with
 |none=>
  have:es.size≤j:=by simpa using he
  rw[List.getElem?_eq_none (by rw[←h.l];exact this)];rfl
 |some e=>rw[(h.k j e (by simpa using he)).1];rfl
def uA (w:World):Value→Option (Array MapEntry)
 |.map none=>some #[]
 |.map (some b)=>(match w.heap[b]? with
  |some (.map es _)=>some es
  |_=>none)
 |_=>none
theorem pH {w0 w:World}{H0 H:HF}{B:Nat→Prop}{γ:Ids}{σ:Sg}(m:Mem w0 H0 B γ H σ w){a:AV}{ag:Bool}{ks:List Value}{vs:List (List D)}(h:su σ a=some (ag,ks,vs)){u:Value}(r:Rep γ H a u):
 ∃es us,uA w u=some es∧MapRep H ag ks vs es us:=by
 unfold su at h
 split at h
 ·next i=>
  split at h
  ·next ag' ks' vs' hi=>
   simp only[Option.some.injEq,Prod.mk.injEq]at h
   obtain⟨rfl,rfl,rfl⟩:=h
   obtain⟨es,clock,us,h1,h2⟩:=m.ent i _ hi
   cases r with
   |mp _=>exact⟨es,us,by simp[uA,h1],h2⟩
  ·cases h
 ·simp only[Option.some.injEq,Prod.mk.injEq]at h
  obtain⟨rfl,rfl,rfl⟩:=h
  cases eS r with
  |mp _ _ _ b es clock us hm hl hl2 hk hu hh=>exact⟨es,us,by simp[uA,m.hok.m _ _ _ hm],⟨hl,hl2,hk,hu,hh⟩⟩
 ·simp only[Option.some.injEq,Prod.mk.injEq]at h
  obtain⟨rfl,rfl,rfl⟩:=h
  obtain rfl:=aV r
  exact⟨#[],fun _=>[],rfl,⟨rfl,rfl,fun j e h=>by simp at h,fun j cs h=>by simp at h,fun j i cs a u h=>by simp at h⟩⟩
 ·cases h
theorem xa {P:Program}{w:World}{mt kt et:TypeId}{x key z:Value}{ok:Bool}{es:Array MapEntry}(hu:P.underlying mt=some (.map kt et))(he:uA w x=some es)(hk:ew P kt key=true)(hz:dV P et=some z)(hr:lj key (es.toList.map (·.key))):
 (Instr.lookup mt x key ok).run P w=.ok (if ok=true then .tuple #[z,.bool false]else z) w:=by
 have h1:=oA (P:=P) (w:=w) hk hr
 have h2:=e7 (P:=P) (em:=es.isEmpty) (n:=9999) (w:=w) hk
 unfold uA at he
 split at he
 ·cases he
  simp only[Instr.lookup,Sem.run_bind,run_underlying hu,Result.andThen_ok,Sem.run_pure,h2,h1,bL hz]
 ·next b=>
  split at he
  ·next es' c hb=>
   cases he
   have hg:(getObj b).run P w=.ok (.map es c) w:=by simp[getObj,Sem.run,hb]
   simp only[Instr.lookup,Sem.run_bind,run_underlying hu,Result.andThen_ok,Sem.run_pure,hg,h2,h1,bL hz]
  ·cases he
 ·cases he
theorem xb {P:Program}{w:World}{mt kt et:TypeId}{x key:Value}{ok:Bool}{es:Array MapEntry}{j:Nat}{e:MapEntry}(hu:P.underlying mt=some (.map kt et))(he:uA w x=some es)(hk:ew P kt key=true)(hr:mG key (es.toList.map (·.key)) j)(hj:es.toList[j]?=some e):
 (Instr.lookup mt x key ok).run P w=.ok (if ok=true then .tuple #[e.val,.bool true]else e.val) w:=by
 have h1:=oB (P:=P) (w:=w) hk hr hj
 have h2:=e7 (P:=P) (em:=es.isEmpty) (n:=9999) (w:=w) hk
 unfold uA at he
 split at he
 ·cases he
  simp at hj
 ·next b=>
  split at he
  ·next es' c hb=>
   cases he
   have hg:(getObj b).run P w=.ok (.map es c) w:=by simp[getObj,Sem.run,hb]
   simp only[Instr.lookup,Sem.run_bind,run_underlying hu,Result.andThen_ok,Sem.run_pure,hg,h2,h1]
  ·cases he
 ·cases he
def yj (ag:Bool)(cs:List D):AV:=match ag,cs with
 |true,cs=>.agg (cs.map .d)
 |false,[c]=>.d c
 |false,_=>.junk
theorem wp {γ:Ids}{H:HF}{ag:Bool}{cs:List D}{us:List Value}(hl:us.length=cs.length)(h:∀(i:Nat)(a:D)(u:Value),cs[i]?=some a→us[i]?=some u→RepD H a u):Rep γ H (yj ag cs) (rF ag us):=by
 cases ag with
 |true=>exact lz hl h
 |false=>
  match cs,us,hl with
  |[],_,_=>exact .junk _
  |[c],[u],_=>exact .d _ _ (h 0 c u rfl rfl)
  |_::_::_,_,_=>exact .junk _
def nf (ok:Bool)(b:Bool)(V:AV):AV:=match ok with
 |true=>.tup [V,.d (.v (.bool b))]
 |false=>V
theorem ne {γ:Ids}{H:HF}{ok b:Bool}{V:AV}{v:Value}(h:Rep γ H V v):Rep γ H (nf ok b V) (if ok=true then .tuple #[v,.bool b]else v):=by
 cases ok with
 |true=>exact jt h fy
 |false=>exact h
def LookP (key:Value)(ks:List Value)(vs:List (List D))(A:List D→Prop)(B:Prop):Prop:=(∃j cs,mG key ks j∧vs[j]?=some cs∧A cs)∨(lj key ks∧B)
section
variable {X:Cx} {d:Option Nat} {ty:TypeId} {pos:String} {aft:Array Edge} {g:Option (Nat×Bool)} {t:T} {σ:Sg} {K:AV→Prop} {F:Prop}
theorem AE {mt kt et:TypeId}{x y:Operand}{ok:Bool}{av:AV}{ag:Bool}{ks:List Value}{vs:List (List D)}{key z:Value}(hu:X.P.underlying mt=some (.map kt et))(hx:ge t x=some av)(hm:su σ av=some (ag,ks,vs))
 (hy:ge t y=some (.d (.v key)))(hk:ew X.P kt key=true)(hz:dV X.P et=some z)(hr:lj key ks):QJ X ⟨d,.lookup mt x y ok,ty,pos,aft,g⟩ t σ (nf ok false (bo z)):=
 QJ.value (by simp) (fun γ H a w so sm=>by
  have e2:=aV (so y (by simp[Op.operands]) _ hy)
  obtain⟨es,us,h1,h2⟩:=pH sm hm (so x (by simp[Op.operands]) _ hx)
  have:=xa (w:=w) (ok:=ok) hu h1 hk hz (by rw[h2.keys];exact hr)
  exact⟨_,by simp only[execOp,Sem.run_bind,e2,this,Result.andThen_ok,Sem.run_pure],ne (bQ γ H z)⟩)
theorem AF {mt kt et:TypeId}{x y:Operand}{ok:Bool}{av:AV}{ag:Bool}{ks:List Value}{vs:List (List D)}{key:Value}{j:Nat}{cs:List D}(hu:X.P.underlying mt=some (.map kt et))(hx:ge t x=some av)(hm:su σ av=some (ag,ks,vs))
 (hy:ge t y=some (.d (.v key)))(hk:ew X.P kt key=true)(hr:mG key ks j)(hc:vs[j]?=some cs):QJ X ⟨d,.lookup mt x y ok,ty,pos,aft,g⟩ t σ (nf ok true (yj ag cs)):=
 QJ.value (by simp) (fun γ H a w so sm=>by
  have e2:=aV (so y (by simp[Op.operands]) _ hy)
  obtain⟨es,us,h1,h2⟩:=pH sm hm (so x (by simp[Op.operands]) _ hx)
  have hj:j<es.size:=by rw[h2.l,←h2.l2];exact(List.getElem?_eq_some_iff.1 hc).1
  have he:es[j]?=some es[j]:=by simp[hj]
  have:=xb (w:=w) (ok:=ok) (e:=es[j]) hu h1 hk (by rw[h2.keys];exact hr) (by simp[hj])
  refine⟨if ok=true then .tuple #[es[j].val,.bool true]else es[j].val,by simp only[execOp,Sem.run_bind,e2,this,Result.andThen_ok,Sem.run_pure],ne ?_⟩
  rw[(h2.k j _ he).2]
  exact wp (h2.u j cs hc) fun i a u ha hu=>h2.r j i cs a u hc ha hu)
def yK (X:Cx)(mt:TypeId)(x y:Operand)(ok:Bool)(t:T)(σ:Sg)(K:AV→Prop)(F:Prop):Prop:=match und X.P mt,ge t x,ge t y with
 |some (.map kt et),some av,some (.d (.v key))=>(match su σ av,ew X.P kt key,dV X.P et with
  |some (ag,ks,vs),true,some z=>LookP key ks vs (fun cs=>K (nf ok true (yj ag cs))) (K (nf ok false (bo z)))
  |_,_,_=>F)
 |_,_,_=>F
theorem rZ {mt:TypeId}{x y:Operand}{ok:Bool}(h:yK X mt x y ok t σ K F):bR X ⟨d,.lookup mt x y ok,ty,pos,aft,g⟩ t σ K F:=by
 simp only[yK,bT]at h
 split at h
 ·next kt et av key hu hx hy=>
  split at h
  ·next ag ks vs z hm hk hz=>
   rcases h with⟨j,cs,h1,h2,h3⟩|⟨h1,h2⟩
   ·exact .inl ⟨_,AF hu hx hm hy hk h1 h2,h3⟩
   ·exact .inl ⟨_,AE hu hx hm hy hk hz h1,h2⟩
  ·exact .inr h
 ·exact .inr h
end
def aO {κ α:Type}[DecidableEq κ](n:κ):List (κ×α)→Option α
 |[]=>none
 |p::m=>if n=p.1 then some p.2 else aO n m
def ea {κ α:Type}[DecidableEq κ](n:κ)(x:α):List (κ×α)→List (κ×α)
 |[]=>[(n,x)]
 |p::m=>if n=p.1 then(n,x)::m else p::ea n x m
theorem fM {κ α:Type}[DecidableEq κ](n k:κ)(x:α):∀m:List (κ×α),aO k (ea n x m)=if k=n then some x else aO k m
 |[]=>by simp[ea,aO]
 |p::m=>by
  simp only[ea]
  by_cases h:n=p.1
  ·rw[if_pos h];simp only[aO];by_cases h2:k=n
   ·rw[if_pos h2,if_pos h2]
   ·rw[if_neg h2,if_neg h2,if_neg (fun e=>h2 (e.trans h.symm))]
  ·rw[if_neg h];simp only[aO,fM n k x m]
   by_cases h2:k=p.1
   ·rw[if_pos h2,if_neg (fun e=>h (e.symm.trans h2)),if_pos h2]
   ·rw[if_neg h2,if_neg h2]
theorem eI {κ α:Type}[DecidableEq κ]{n:κ}:∀{m:List (κ×α)}{x:α},aO n m=some x→∃j,m[j]?=some (n,x)∧∀(i:Nat)(p:κ×α),i<j→m[i]?=some p→n≠p.1
 |[],x,h=>by simp[aO]at h
 |p::m,x,h=>by
  simp only[aO]at h
  by_cases e:n=p.1
  ·rw[if_pos e]at h
   simp only[Option.some.injEq]at h
   exact⟨0,by subst h;subst e;simp,fun i p hi=>by omega⟩
  ·rw[if_neg e]at h
   obtain⟨j,h1,h2⟩:=eI h
   refine⟨j+1,by simpa using h1,fun i q hi hq=>?_⟩
   cases i with
   |zero=>simp at hq;subst hq;exact e
   |succ i=>exact h2 i q (by omega) (by simpa using hq)
theorem eH {κ α:Type}[DecidableEq κ]{n:κ}:∀{m:List (κ×α)},aO n m=none→∀p,p∈m→n≠p.1
 |[],_,p,hp=>by simp at hp
 |q::m,h,p,hp=>by
  simp only[aO]at h
  split at h
  ·cases h
  ·next e=>
   rcases List.mem_cons.1 hp with rfl|h1
   ·exact e
   ·exact eH h p h1
theorem m7 {κ α:Type}[DecidableEq κ]{n:κ}{x:α}:∀{m:List (κ×α)}{j:Nat}{y:α},m[j]?=some (n,y)→(∀(i:Nat)(p:κ×α),i<j→m[i]?=some p→n≠p.1)→ea n x m=m.set j (n,x)
 |[],j,y,h,_=>by simp at h
 |p::m,0,y,h,_=>by simp at h;subst h;simp[ea]
 |p::m,j+1,y,h,hn=>by
  have:=hn 0 p (by omega) (by simp)
  simp only[ea,if_neg this,List.set_cons_succ]
  rw[m7 (by simpa using h) fun i q hi hq=>hn (i+1) q (by omega) (by simpa using hq)]
theorem m6 {κ α:Type}[DecidableEq κ]{n:κ}{x:α}:∀{m:List (κ×α)},(∀p,p∈m→n≠p.1)→ea n x m=m++[(n,x)]
 |[],_=>rfl
 |p::m,h=>by
  simp only[ea,if_neg (h p (by simp)),List.cons_append]
  rw[m6 fun q hq=>h q (List.mem_cons_of_mem _ hq)]
structure KV (κ:Type)[DecidableEq κ]where
 val:κ→Value
 cmp:∀a b:κ,gV (val a) (val b)=some (decide (a=b))
def eM:KV Int:=⟨.int .i64,fun _ _=>rfl⟩
theorem keyNo_of {κ α:Type}[DecidableEq κ](kv:KV κ){n:κ}{m:List (κ×α)}(h:∀p,p∈m→n≠p.1):lj (kv.val n) (m.map fun p=>kv.val p.1):=fun i x hx=>by
 simp only[List.getElem?_map,Option.map_eq_some_iff]at hx
 obtain⟨p,hp,rfl⟩:=hx
 rw[kv.cmp,decide_eq_false (h p (aQ hp))]
theorem sy {κ α:Type}[DecidableEq κ](kv:KV κ){n:κ}{m:List (κ×α)}{j:Nat}{x:α}(h:m[j]?=some (n,x))(hn:∀(i:Nat)(p:κ×α),i<j→m[i]?=some p→n≠p.1):mG (kv.val n) (m.map fun p=>kv.val p.1) j:=
 ⟨⟨kv.val n,by simp[h],by rw[kv.cmp,decide_eq_true rfl]⟩,fun i x hi hx=>by
  simp only[List.getElem?_map,Option.map_eq_some_iff]at hx
  obtain⟨p,hp,rfl⟩:=hx
  rw[kv.cmp,decide_eq_false (hn i p hi hp)]⟩
theorem LookP.by {κ α:Type}[DecidableEq κ](kv:KV κ){n:κ}(m:List (κ×α)){e:α→List D}{A:List D→Prop}{B:Prop}(hs:∀x,aO n m=some x→A (e x))(hn:aO n m=none→B):
 LookP (kv.val n) (m.map fun p=>kv.val p.1) (m.map fun p=>e p.2) A B:=by
 cases h:aO n m with
 |some x=>
  obtain⟨j,h1,h2⟩:=eI h
  exact .inl ⟨j,e x,sy kv h1 h2,by simp[h1],hs x h⟩
 |none=>exact .inr ⟨keyNo_of kv (eH h),hn h⟩
theorem w8 {P:Program}{w:World}{mt kt et:TypeId}{b:Nat}{es:Array MapEntry}{clock:Nat}{key v:Value}(hu:P.underlying mt=some (.map kt et))(hb:w.heap[b]?=some (.map es clock))(hk:ew P kt key=true)(hr:lj key (es.toList.map (·.key))):
 (Instr.mapUpdate mt (.map (some b)) key v).run P w=.ok () (w.putObj b (.map (es.push {key,val:=v,born:=clock}) (clock+1))):=by
 have h1:=oA (P:=P) (w:=w) hk hr
 have h2:=e7 (P:=P) (em:=false) (n:=9999) (w:=w) hk
 have hg:(getObj b).run P w=.ok (.map es clock) w:=by simp[getObj,Sem.run,hb]
 have hs:∀o,(setObj b o).run P w=.ok () (w.putObj b o):=fun o=>by simp[setObj,Sem.run,hb,World.putObj]
 simp only[Instr.mapUpdate,Sem.run_bind,run_underlying hu,Result.andThen_ok,hg,h2,h1,hs]
theorem w9 {P:Program}{w:World}{mt kt et:TypeId}{b:Nat}{es:Array MapEntry}{clock:Nat}{key v:Value}{j:Nat}{e:MapEntry}(hu:P.underlying mt=some (.map kt et))(hb:w.heap[b]?=some (.map es clock))(hk:ew P kt key=true)(hr:mG key (es.toList.map (·.key)) j)(hj:es[j]?=some e):
 (Instr.mapUpdate mt (.map (some b)) key v).run P w=.ok () (w.putObj b (.map (es.modify j fun e=>{e with key:=key,val:=v}) clock)):=by
 have h1:=oB (P:=P) (w:=w) hk hr (e:=e) (by simpa using hj)
 have h2:=e7 (P:=P) (em:=false) (n:=9999) (w:=w) hk
 have hg:(getObj b).run P w=.ok (.map es clock) w:=by simp[getObj,Sem.run,hb]
 have hs:∀o,(setObj b o).run P w=.ok () (w.putObj b o):=fun o=>by simp[setObj,Sem.run,hb,World.putObj]
 have hc:gV key e.key=some true:=by
  obtain⟨⟨x,hx,hc⟩,_⟩:=hr
  simp only[List.getElem?_map,Array.getElem?_toList,hj,Option.map_some,Option.some.injEq]at hx
  rw[hx];exact hc
 have h3:=(sV (n:=9999) hc).1
 simp only[Instr.mapUpdate,Sem.run_bind,run_underlying hu,Result.andThen_ok,hg,h2,h1,hj,Option.map_some,Option.getD_some,Instr.keyThatStays,h3,if_true,Sem.run_pure,hs]
def PutP (key:Value)(ks:List Value)(vs:List (List D))(ds:List D)(K:List Value→List (List D)→Prop):Prop:=(∃j,mG key ks j∧K ks (vs.set j ds))∨(lj key ks∧K (ks++[key]) (vs++[ds]))
def Ga:AV→Bool
 |.agg _=>true
 |_=>false
theorem z6 {γ:Ids}{H:HF}{a:AV}{u:Value}{ds:List D}(r:Rep γ H a u)(h1:cz a=true)(hd:fO (aE a)=some ds):∃us:List Value,u=rF (Ga a) us∧us.length=ds.length∧∀(i:Nat)(x:D)(v:Value),ds[i]?=some x→us[i]?=some v→RepD H x v:=by
 cases r with
 |agg cs us hl hr=>
  obtain⟨h2,h3⟩:=fE hd
  refine⟨us,rfl,by rw[hl,h2];rfl,fun i x v hx hv=>?_⟩
  obtain⟨a,ha,hx'⟩:=h3 i x hx
  exact fk hx' (hr i a v ha hv)
 |d x u hr=>
  refine⟨[u],rfl,by cases hd;rfl,fun i y v hy hv=>?_⟩
  cases hd
  cases i with
  |zero=>simp at hy hv;subst hy;subst hv;exact hr
  |succ i=>simp at hy
 |full k xs A hr=>
  refine⟨[_],rfl,by cases hd;rfl,fun i y v hy hv=>?_⟩
  cases hd
  cases i with
  |zero=>simp at hy hv;subst hy;subst hv;exact hr
  |succ i=>simp at hy
 |_=>simp[aE,fO,dOf]at hd
section
variable {X:Cx} {d:Option Nat} {ty:TypeId} {pos:String} {aft:Array Edge} {g:Option (Nat×Bool)} {t:T} {σ:Sg} {K:T→Sg→Prop} {F:Prop}
theorem BN {γ:Ids}{H:HF}{a:Act}{w:World}{i:Nat}{ag:Bool}{ks:List Value}{vs:List (List D)}{mt kt et:TypeId}{key v:Value}{us:List Value}{ds:List D}(s:St X γ H t σ a w)(hi:look i σ=some (.mp ag ks vs))(hu:X.P.underlying mt=some (.map kt et))
 (hk:ew X.P kt key=true)(hv:v=rF ag us)(hl:us.length=ds.length)(hr:∀(i:Nat)(x:D)(v:Value),ds[i]?=some x→us[i]?=some v→RepD H x v){R:List Value→List (List D)→Prop}(hp:PutP key ks vs ds R):
 ∃w' ks' vs',(Instr.mapUpdate mt (.map (some (γ i).b)) key v).run X.P w=.ok () w'∧R ks' vs'∧∀(dd:Option Nat)(u:Value),dOk dd X.N=true→St X γ H (putT dd .junk t) ((i,.mp ag ks' vs')::σ) (a.put dd u) w':=by
 obtain⟨es,clock,f,hb,hm⟩:=s.mem.ent i _ hi
 have hlt:=aF hb
 have turn:∀(o:Obj) ks' vs',EntOk γ H (w.putObj (γ i).b o) i (.mp ag ks' vs')→∀(dd:Option Nat)(u:Value),dOk dd X.N=true→St X γ H (putT dd .junk t) ((i,.mp ag ks' vs')::σ) (a.put dd u) (w.putObj (γ i).b o):=fun o ks' vs' he dd u hN=>
  s.turn hi rfl (s.mem.turn (w':=w.putObj (γ i).b o) (e':=.mp ag ks' vs') hi rfl ⟨rfl,rfl,rfl,by simp,fun k hk=>World.putObj_heap_other hk⟩ he fun b hb=>hb) hN (.junk _)
 rcases hp with⟨j,h1,h2⟩|⟨h1,h2⟩
 ·have hj:j<es.size:=by
   obtain⟨⟨x,hx,_⟩,_⟩:=h1
   rw[hm.l];exact(List.getElem?_eq_some_iff.1 hx).1
  have he:es[j]?=some es[j]:=by simp[hj]
  have hkj:key=es[j].key:=by
   obtain⟨⟨x,hx,hc⟩,_⟩:=h1
   have:=(hm.k j _ he).1
   rw[this]at hx
   cases hx;exact(sV (n:=0) hc).2
  refine⟨_,ks,vs.set j ds,w9 (v:=v) hu hb hk (by rw[hm.keys];exact h1) he,h2,turn _ _ _ ⟨_,clock,fun l=>if l=j then us else f l,World.putObj_heap_same hlt,?_⟩⟩
  refine⟨by simp[hm.l],by simp[hm.l2],fun l e hl'=>?_,fun l cs hl'=>?_,fun l m cs x u hc ha hu'=>?_⟩
  ·rw[Array.getElem?_modify]at hl'
   by_cases hlj:j=l
   ·rw[if_pos hlj]at hl'
    subst hlj
    rw[he]at hl'
    simp only[Option.map_some,Option.some.injEq]at hl'
    subst hl'
    simp only[if_pos]
    exact⟨by rw[hkj];exact(hm.k j _ he).1,hv⟩
   ·rw[if_neg hlj]at hl'
    have:=hm.k l e (by simpa using hl')
    rw[if_neg (fun e=>hlj e.symm)];exact this
  ·rw[List.getElem?_set]at hl'
   by_cases hlj:j=l
   ·subst hlj
    rw[if_pos rfl]at hl'
    split at hl'
    ·cases hl';simp only[if_pos];exact hl
    ·cases hl'
   ·rw[if_neg hlj]at hl'
    rw[if_neg (fun e=>hlj e.symm)];exact hm.u l cs hl'
  ·rw[List.getElem?_set]at hc
   by_cases hlj:j=l
   ·subst hlj
    rw[if_pos rfl]at hc
    simp only[if_pos]at hu'
    split at hc
    ·cases hc;exact hr m x u ha hu'
    ·cases hc
   ·rw[if_neg hlj]at hc
    rw[if_neg (fun e=>hlj e.symm)]at hu'
    exact hm.r l m cs x u hc ha hu'
 ·refine⟨_,ks++[key],vs++[ds],w8 (v:=v) hu hb hk (by rw[hm.keys];exact h1),h2,turn _ _ _ ⟨_,clock+1,fun l=>if l=es.size then us else f l,World.putObj_heap_same hlt,?_⟩⟩
  have hl1:vs.length=es.size:=by rw[hm.l2,hm.l]
  refine⟨by simp[hm.l],by simp[hm.l2],fun l e hl'=>?_,fun l cs hl'=>?_,fun l m cs x u hc ha hu'=>?_⟩
  ·rw[Array.getElem?_push]at hl'
   by_cases hlj:l=es.size
   ·rw[if_pos hlj]at hl'
    cases hl'
    subst hlj
    simp only[if_pos]
    exact⟨by rw[hm.l,List.getElem?_append_right (Nat.le_refl _)];simp,hv⟩
   ·rw[if_neg hlj]at hl'
    have hlt':l<es.size:=(Array.getElem?_eq_some_iff.1 hl').1
    rw[if_neg hlj,List.getElem?_append_left (by rw[←hm.l];exact hlt')]
    exact hm.k l e hl'
  ·by_cases hlj:l=es.size
   ·subst hlj
    rw[List.getElem?_append_right (by omega),hl1]at hl'
    simp at hl';subst hl'
    simp only[if_pos];exact hl
   ·have hlt':l<vs.length:=by
     have:=(List.getElem?_eq_some_iff.1 hl').1
     simp at this;omega
    rw[List.getElem?_append_left hlt']at hl'
    rw[if_neg hlj];exact hm.u l cs hl'
  ·by_cases hlj:l=es.size
   ·subst hlj
    rw[List.getElem?_append_right (by omega),hl1]at hc
    simp at hc;subst hc
    simp only[if_pos]at hu'
    exact hr m x u ha hu'
   ·have hlt':l<vs.length:=by
     have:=(List.getElem?_eq_some_iff.1 hc).1
     simp at this;omega
    rw[List.getElem?_append_left hlt']at hc
    rw[if_neg hlj]at hu'
    exact hm.r l m cs x u hc ha hu'
def mY (X:Cx)(d:Option Nat)(mt:TypeId)(x y z:Operand)(t:T)(σ:Sg)(K:T→Sg→Prop)(F:Prop):Prop:=match und X.P mt,ge t x,ge t y,ge t z with
 |some (.map kt et),some (.mp i),some (.d (.v key)),some av=>(match look i σ,fO (aE av)with
  |some (.mp ag ks vs),some ds=>(match ew X.P kt key&&(Ga av==ag)&&cz av&&dOk d X.N with
   |true=>PutP key ks vs ds fun ks' vs'=>K (putT d .junk t) ((i,.mp ag ks' vs')::σ)
   |false=>F)
  |_,_=>F)
 |_,_,_,_=>F
theorem my {mt:TypeId}{x y z:Operand}{op:Op}(hop:∀ρ:Operand→Value,execOp ρ ⟨d,op,ty,pos,aft,g⟩=execOp ρ ⟨d,.mapUpdate mt x y z,ty,pos,aft,g⟩)(hnd:∀c,op≠ .defer c)(h:mY X d mt x y z t σ K (OpJ X ⟨d,op,ty,pos,aft,g⟩ t σ K)):OpJ X ⟨d,op,ty,pos,aft,g⟩ t σ K:=by
 simp only[mY,bT]at h
 split at h
 ·next kt et i key av hu hx hy hz=>
  split at h
  ·next ag ks vs ds hi hd=>
   split at h
   ·next hb=>
    simp only[Bool.and_eq_true,beq_iff_eq]at hb
    obtain⟨⟨⟨h1,h2⟩,h3⟩,h4⟩:=hb
    intro γ H a w s next Q' hk
    have r1:=aT s.tmp hx
    have r2:=aV (aT s.tmp hy)
    obtain⟨us,e3,h5,h6⟩:=z6 (aT s.tmp hz) h3 hd
    generalize hq:a.eval x=q at r1
    cases r1 with
    |mp _=>
    obtain⟨w',ks',vs',hw,hR,hst⟩:=BN (v:=a.eval z) s hi hu h1 (by rw[←h2];exact e3) h5 h6 h
    have hrun:(execOp a.eval ⟨d,op,ty,pos,aft,g⟩).run X.P w=.ok .skip w':=by
     rw[hop]
     simp only[execOp,hq,r2,Sem.run_bind,hw,Result.andThen_ok,Sem.run_pure]
    rw[aG hnd,hrun,Oper.uponIn_skip]
    exact hk γ H _ _ _ w' (hst d undef h4) hR
   ·exact h
  ·exact h
 ·exact h
theorem O.makeMap {i:Nat}{mt:TypeId}{ag:Bool}(hN:dOk (some i) X.N=true)(hf:am i t σ X.pin=true)(k:K ((i,.mp i)::t) ((i,.mp ag [] [])::σ)):OpJ X ⟨some i,.makeMap mt none,ty,pos,aft,g⟩ t σ K:=by
 intro γ H a w s next Q' hk
 have hrun:(execOp a.eval ⟨some i,.makeMap mt none,ty,pos,aft,g⟩).run X.P w=.ok (.value (.map (some w.heap.size))) (w.alloc (.map #[] 0)):=by
  simp[execOp,run_makeMap]
 rw[aG (by simp),hrun,Oper.uponIn_value]
 have hm:=s.mem.new i (.mp ag [] []) (.map #[] 0) 0 (by
  refine⟨#[],0,fun _=>[],?_,⟨rfl,rfl,fun j e h=>by simp at h,fun j cs h=>by simp at h,fun j i cs a u h=>by simp at h⟩⟩
  rw[ap];exact World.alloc_heap_new w _) (fun _ _ h=>by cases h)
 refine hk _ H _ _ _ _ (s.new (d:=some i) (V:=.mp i) hm hf hN ?_) k
 have:=Rep.mp (γ:=upd γ i ⟨w.heap.size,0,fun _=>False⟩) (H:=H) i
 rw[ap]at this;exact this
def oH (X:Cx)(i:Nat)(mt:TypeId)(t:T)(σ:Sg)(K:T→Sg→Prop)(F:Prop):Prop:=match und X.P mt with
 |some (.map _ et)=>(match jk X.P et with
  |some ag=>(match am i t σ X.pin&&dOk (some i) X.N with
   |true=>K ((i,.mp i)::t) ((i,.mp ag [] [])::σ)
   |false=>F)
  |none=>F)
 |_=>F
theorem oG {i:Nat}{mt:TypeId}(h:oH X i mt t σ K (OpJ X ⟨some i,.makeMap mt none,ty,pos,aft,g⟩ t σ K)):OpJ X ⟨some i,.makeMap mt none,ty,pos,aft,g⟩ t σ K:=by
 simp only[oH,bT]at h
 split at h
 ·split at h
  ·split at h
   ·next hb=>simp only[Bool.and_eq_true]at hb;exact O.makeMap hb.2 hb.1 h
   ·exact h
  ·exact h
 ·exact h
end
theorem PutP.by {κ α:Type}[DecidableEq κ](kv:KV κ){n:κ}(m:List (κ×α)){e:α→List D}(x:α){K:List Value→List (List D)→Prop}(h:K ((ea n x m).map fun p=>kv.val p.1) ((ea n x m).map fun p=>e p.2)):
 PutP (kv.val n) (m.map fun p=>kv.val p.1) (m.map fun p=>e p.2) (e x) K:=by
 cases hl:aO n m with
 |some y=>
  obtain⟨j,h1,h2⟩:=eI hl
  refine .inl ⟨j,sy kv h1 h2,?_⟩
  rw[m7 h1 h2,List.map_set,List.map_set]at h
  have:(m.map fun p=>kv.val p.1).set j (kv.val n)=m.map fun p=>kv.val p.1:=by
   apply List.ext_getElem?
   intro l
   rw[List.getElem?_set]
   split
   ·next e=>subst e;rw[if_pos (by simp;exact(List.getElem?_eq_some_iff.1 h1).1),List.getElem?_map,h1];rfl
   ·rfl
  rw[this]at h;exact h
 |none=>
  have h1:=eH hl
  refine .inr ⟨keyNo_of kv h1,?_⟩
  rw[m6 h1,List.map_append,List.map_append]at h
  exact h
end Go.Gv
end
section
namespace Go.Gv
open Go.RowKit
def ir (k:Nat):Nat→List D→List (List D)
 |0,_=>[]
 |n+1,ds=>ds.take k::ir k n (ds.drop k)
theorem lU (k:Nat):∀(n:Nat)(ds:List D),ir k n ds=fF k n ds
 |0,ds=>by simp[ir,fF]
 |n+1,ds=>by
  rw[ir,lU k n]
  simp only[fF]
  rw[List.range_succ_eq_map]
  simp only[List.map_cons,List.map_map,Nat.zero_mul,List.drop_zero,List.cons.injEq,true_and]
  refine List.map_congr_left fun j _=>?_
  simp only[Function.comp,List.drop_drop,Nat.succ_eq_add_one]
  rw[Nat.add_mul,Nat.one_mul,Nat.add_comm]
def cellsP (P:Program)(t:TypeId):Nat:=match inf P t with|some i=>i.size|none=>0
theorem xz (P:Program)(t:TypeId):cellsP P t=P.cellsOf t:=by
 unfold cellsP Program.cellsOf;rw[ob];cases P.info? t<;>rfl
def qH (fs:List Field)(P:Program)(i:Nat):Option (Nat×Nat):=match fs[i]? with
 |some f=>some (f.offset,cellsP P f.type)
 |none=>none
theorem wW (fs:List Field)(P:Program)(i:Nat):(fs.map fun f=>(f.offset,P.cellsOf f.type))[i]?=qH fs P i:=by
 unfold qH
 rw[List.getElem?_map]
 cases fs[i]?<;>simp[xz]
def mW (P:Program):List Field→Bool
 |[]=>true
 |f::r=>ij (inf P f.type)&&mW P r
theorem n9 {P:Program}:∀{fs:List Field},mW P fs=true→(fs.all fun f=>(P.info? f.type).isSome)=true
 |[],_=>rfl
 |f::r,h=>by
  simp only[mW,ob,Bool.and_eq_true]at h
  simp only[List.all_cons,Bool.and_eq_true]
  refine⟨?_,n9 h.2⟩
  cases hx:P.info? f.type with
  |none=>rw[hx]at h;simp[ij]at h
  |some i=>rfl
section
variable {X:Cx} {d:Option Nat} {ty:TypeId} {pos:String} {aft:Array Edge} {g:Option (Nat×Bool)} {t:T} {σ:Sg} {K:AV→Prop} {F:Prop}
theorem AL {s el:TypeId}{n k:Nat}{parts:Array (Nat×Operand)}{z:Value}{ps:List (Nat×AV)}{cs:List AV}(hp:eY t parts.toList=some ps)(hu:X.P.underlying s=some (.array n el))
 (hzv:∀w,(zeroValue s).run X.P w=.ok z w)(hs:∀w,(sizeOf el).run X.P w=.ok k w)
 (hf:gu (fun i=>some (i*k,k)) (z.cells.toList.map fH) ps=some cs):QJ X ⟨d,.build s parts,ty,pos,aft,g⟩ t σ (.agg cs):=
 QJ.value (by simp) (fun γ H a w so sm=>by
  obtain⟨h1,h2⟩:=ed (t:=t) (l:=parts.toList) (fun x hx=>so x (by simp[Op.operands]at hx ⊢;exact hx)) hp
  obtain⟨us',e1,e2,e3⟩:=ip (γ:=γ) (H:=H) ps _ (z.cells.toList.map fH) z.cells.toList (by simp) (fun j x y hx hy=>by
   simp only[List.getElem?_map,hy,Option.map_some,Option.some.injEq]at hx
   subst hx;exact hX y) h1 h2 hf
  simp only[Array.toArray_toList]at e1
  refine⟨.agg us'.toArray,?_,.agg _ _ e2 e3⟩
  have e:parts.map (fun(i,x)=>(i,a.eval x))=(parts.toList.map fun p=>(p.1,a.eval p.2)).toArray:=by
   apply Array.toList_inj.1;simp
  simp only[execOp,Sem.run_bind,e,Instr.build,hzv,Result.andThen_ok,run_underlying hu,hs]
  simp only[e1,Sem.run_pure,Result.andThen_ok])
def t9 (X:Cx)(s:TypeId)(parts:Array (Nat×Operand))(t:T)(K:AV→Prop)(F:Prop):Prop:=
 match und X.P s,dV X.P s,eY t parts.toList with
 |some (.struct fs),some z,some ps=>(match mW X.P fs.toList,gu (qH fs.toList X.P) (z.cells.toList.map fH) ps with
  |true,some cs=>K (.agg cs)
  |_,_=>F)
 |some (.array _ el),some z,some ps=>(match fu X.P el with
  |some k=>(match gu (fun i=>some (i*k,k)) (z.cells.toList.map fH) ps with
   |some cs=>K (.agg cs)
   |none=>F)
  |none=>F)
 |_,_,_=>F
theorem qE {s:TypeId}{parts:Array (Nat×Operand)}(h:t9 X s parts t K F):bR X ⟨d,.build s parts,ty,pos,aft,g⟩ t σ K F:=by
 simp only[t9,bT]at h
 split at h
 ·next fs z ps hu hz hp=>
  split at h
  ·next cs hi hf=>
   refine .inl ⟨_,O.build hp hu (bL hz) (n9 hi) ?_,h⟩
   have:(fun i=>(fs.toList.map fun f=>(f.offset,X.P.cellsOf f.type))[i]?)=qH fs.toList X.P:=funext fun i=>wW _ _ _
   rw[this];exact hf
  ·exact .inr h
 ·next n el z ps hu hz hp=>
  split at h
  ·next k hs=>
   split at h
   ·next cs hf=>exact .inl ⟨_,AL hp hu (bL hz) (aK hs) hf,h⟩
   ·exact .inr h
  ·exact .inr h
 ·exact .inr h
def iO (X:Cx)(st:TypeId)(len:Nat)(parts:Array (Nat×Operand))(t:T)(K:AV→Prop)(F:Prop):Prop:=
 match und X.P st with
 |some (.slice el)=>(match fu X.P el,dV X.P el,eY t parts.toList with
  |some k,some z,some ps=>(match Nat.ble (len*k) 16777216&&Nat.ble len 16777216,gu (fun i=>some (i*k,k)) (jO z.cells.toList (len*k)) ps with
   |true,some cs=>(match fO cs with
    |some ds=>(match Nat.beq ds.length (len*k)with
     |true=>K (.full k (ir k len ds))
     |false=>F)
    |none=>F)
   |_,_=>F)
  |_,_,_=>F)
 |_=>F
theorem kA {st:TypeId}{len:Nat}{parts:Array (Nat×Operand)}(h:iO X st len parts t K F):bR X ⟨d,.buildSlice st len parts,ty,pos,aft,g⟩ t σ K F:=by
 simp only[iO,bT]at h
 split at h
 ·next el hu=>
  split at h
  ·next k z ps hs hz hp=>
   split at h
   ·next cs hb hf=>
    split at h
    ·next ds hd=>
     split at h
     ·next hl=>
      simp only[Bool.and_eq_true,Nat.ble_eq]at hb
      rw[lU]at h
      exact .inl ⟨_,Gl hp hu (aK hs) (bL hz) hb.1 hb.2 hf hd (Nat.eq_of_beq_eq_true hl),h⟩
     ·exact .inr h
    ·exact .inr h
   ·exact .inr h
  ·exact .inr h
 ·exact .inr h
def qw (X:Cx)(o:Oper)(t:T)(σ:Sg)(K:AV→Prop)(F:Prop):Prop:=match o.op with
 |.build s parts=>t9 X s parts t K F
 |.buildSlice st len parts=>iO X st len parts t K F
 |.lookup mt x y ok=>yK X mt x y ok t σ K F
 |_=>qv X o t σ K F
theorem iN {o:Oper}(h:qw X o t σ K F):bR X o t σ K F:=by
 unfold qw at h
 split at h
 ·next e=>obtain⟨d,op,ty,pos,aft,g⟩:=o;simp only at e;subst e;exact qE h
 ·next e=>obtain⟨d,op,ty,pos,aft,g⟩:=o;simp only at e;subst e;exact kA h
 ·next e=>obtain⟨d,op,ty,pos,aft,g⟩:=o;simp only at e;subst e;exact rZ h
 ·exact yJ h
end
def StoreP (off n kk:Nat)(xs:List (List D))(ds:List D)(K:List (List D)→Prop):Prop:=∃j l cs,off=j*kk+l∧xs[j]?=some cs∧l+n≤cs.length∧ds.length=n∧K (xs.set j (bI cs l ds))
theorem StoreP.of {off n kk:Nat}{xs:List (List D)}{ds:List D}{K:List (List D)→Prop}(j l:Nat)(cs:List D)(h:off=j*kk+l)(h1:xs[j]?=some cs)(h2:l+n≤cs.length)(h3:ds.length=n)(k:K (xs.set j (bI cs l ds))):
 StoreP off n kk xs ds K:=⟨j,l,cs,h,h1,h2,h3,k⟩
def FV (P:Program)(e:TypeId):Bool:=match und P e with
 |some (.struct ⟨[f,_]⟩)=>(match und P f.type with
  |some (.pointer e')=>Nat.beq e' e
  |_=>false)
 |_=>false
def eff (X:Cx)(o:Oper)(t:T)(σ:Sg)(K:T→Sg→Prop):Prop:=match o.op,o.dst with
 |.box _ x,some i=>(match ge t x with
  |some av=>(match cz av&&am i t σ X.pin&&!(aE av).any (aP i)&&dOk (some i) X.N with
   |true=>K ((i,.box i 0)::t) ((i,.cells (aE av))::σ)
   |false=>OpJ X o t σ K)
  |none=>OpJ X o t σ K)
 |.alloc e,some i=>(match dV X.P e with
  |some z=>(match cz (bo z)&&am i t σ X.pin&&!(aE (bo z)).any (aP i)&&dOk (some i) X.N&&!FV X.P e with
   |true=>K ((i,.box i 0)::t) ((i,.cells (aE (bo z)))::σ)
   |false=>OpJ X o t σ K)
  |none=>OpJ X o t σ K)
 |.store e x y,none=>(match fu X.P e,ge t x,ge t y with
  |some n,some (.box i off),some v=>(match look i σ with
   |some (.cells cs)=>(match cz v&&gp (aE v)&&Nat.beq (aE v).length n&&Nat.ble (off+n) cs.length with
    |true=>xj (off+n) (Bp cs off (aE v)) fun cs'=>K t ((i,.cells cs')::σ)
    |false=>OpJ X o t σ K)
   |_=>OpJ X o t σ K)
  |some n,some (.boxX i off),some v=>(match look i σ with
   |some (.cells cs)=>(match cz v&&gp (aE v)&&Nat.beq (aE v).length n with
    |true=>Req (off+n≤cs.length) (K t ((i,.cells (bI cs off (aE v)))::σ))
    |false=>OpJ X o t σ K)
   |some (.arr kk xs)=>(match cz v,fO (aE v)with
    |true,some ds=>StoreP off n kk xs ds fun ys=>K t ((i,.arr kk ys)::σ)
    |_,_=>OpJ X o t σ K)
   |_=>OpJ X o t σ K)
  |_,_,_=>OpJ X o t σ K)
 |.call ⟨.builtin .append,⟨[x,y]⟩,⟨[st,xt]⟩⟩,d=>Ey X d x y st xt t σ K (OpJ X o t σ K)
 |.mapUpdate mt x y z,d=>mY X d mt x y z t σ K (OpJ X o t σ K)
 |.insert mt x y z,d=>mY X d mt x y z t σ K (OpJ X o t σ K)
 |.makeMap mt none,some i=>oH X i mt t σ K (OpJ X o t σ K)
 |_,d=>qw X o t σ (fun V=>match dOk d X.N with|true=>K (putT d V t) σ|false=>False) (OpJ X o t σ K)
theorem d6 {X:Cx}{o:Oper}{t:T}{σ:Sg}{K:T→Sg→Prop}(h:eff X o t σ K):OpJ X o t σ K:=by
 obtain⟨d,op,ty,pos,aft,g⟩:=o
 unfold eff at h
 simp only at h
 split at h
 ·split at h
  ·next av hx=>
   split at h
   ·next hb=>
    simp only[Bool.and_eq_true,Bool.not_eq_true']at hb
    exact O.box hb.2 hx hb.1.1.1 hb.1.1.2 hb.1.2 h
   ·exact h
  ·exact h
 ·split at h
  ·next z hz=>
   split at h
   ·next hb=>
    simp only[Bool.and_eq_true,Bool.not_eq_true']at hb
    exact O.alloc hb.1.2 (bL hz) hb.1.1.1.1 hb.1.1.1.2 hb.1.1.2 h
   ·exact h
  ·exact h
 ·split at h
  ·next n i off v hs hx hy=>
   split at h
   ·next cs hi=>
    split at h
    ·next hb=>
     simp only[Bool.and_eq_true,Nat.ble_eq,Nat.beq_eq]at hb
     rw[mX,qp]at h
     exact O.store hx rfl hy hi hb.1.1.1 hb.1.1.2 (aK hs) hb.1.2 hb.2 rfl h
    ·exact h
   ·exact h
  ·next n i off v hs hx hy=>
   split at h
   ·next cs hi=>
    split at h
    ·next hb=>
     simp only[Bool.and_eq_true,Nat.beq_eq]at hb
     exact O.store hx rfl hy hi hb.1.1 hb.1.2 (aK hs) hb.2 h.1 rfl h.2
    ·exact h
   ·next kk xs hi=>
    split at h
    ·next ds h1 hd=>
     obtain⟨j,l,cs,h2,h3,h4,h5,h⟩:=h
     exact Az hx rfl hy hi h1 hd h2 h3 (aK hs) h5 h4 h
    ·exact h
   ·exact h
  ·exact h
 ·exact uF h
 ·exact my (fun _=>rfl) (by simp) h
 ·exact my (fun _=>rfl) (by simp) h
 ·exact oG h
 ·rcases iN h with⟨V,hq,hk⟩|h
  ·split at hk
   ·next hN=>exact OpJ.quiet hq hN hk
   ·exact hk.elim
  ·exact h
def grd (b0:Bool)(b:Bool)(d:Nat)(t:T)(yes no:T→Prop):Prop:=match b0 with
 |true=>Spl b (yes ((d,.d (.v (.bool true)))::t)) (no ((d,.d (.v (.bool false)))::t))
 |false=>Spl b (no ((d,.d (.v (.bool true)))::t)) (yes ((d,.d (.v (.bool false)))::t))
def p4 (all:Array Oper)(j:Nat):Option Nat:=match all[j]? with
 |some o=>o.dst
 |none=>none
theorem kY (all:Array Oper)(j:Nat):((all[j]?).bind (·.dst))=p4 all j:=by
 unfold p4;cases all[j]?<;>rfl
def vL (X:Cx)(all:Array Oper):List Oper→T→Sg→(T→Sg→Prop)→Prop
 |[],t,σ,Q=>Q t σ
 |o::al,t,σ,Q=>match o.guard with
  |none=>eff X o t σ fun t σ=>vL X all al t σ Q
  |some (j,b0)=>match p4 all j,dOk o.dst X.N with
   |some d,true=>(match look d t with
    |some (.d (.v (.bool b)))=>grd b0 b d t (fun t=>eff X o t σ fun t σ=>vL X all al t σ Q) (fun t=>vL X all al (putT o.dst (.tup []) t) σ Q)
    |some (.tup [])=>vL X all al (putT o.dst (.tup []) t) σ Q
    |_=>False)
   |_,_=>False
theorem LJ.wk {X:Cx}{all:Array Oper}{k:Nat}{al:List Oper}{t t':T}{σ:Sg}{Q:T→Sg→Prop}(hw:Wk t' t)(h:LJ X all k al t' σ Q):LJ X all k al t σ Q:=LJ.shift (SJ.wk hw (Wk.refl _)) h
theorem gA {X:Cx}{all:Array Oper}{Q:T→Sg→Prop}:∀(al:List Oper)(k:Nat)(t:T)(σ:Sg),vL X all al t σ Q→LJ X all k al t σ Q
 |[],k,t,σ,h=>LJ.done h
 |o::al,k,t,σ,h=>by
  unfold vL at h
  split at h
  ·next hg=>exact LJ.op hg ((d6 h).mono fun t σ h=>gA al (k+1) t σ h)
  ·next j b0 hg=>
   split at h
   ·next d hd hN=>
    have hd':((all[j]?).bind (·.dst))=some d:=by rw[kY];exact hd
    split at h
    ·next b hb=>
     have yes:∀c,b=c→eff X o ((d,.d (.v (.bool c)))::t) σ (fun t σ=>vL X all al t σ Q)→c=b0→LJ X all k (o::al) t σ Q:=fun c hc he hcb=>by
      subst hc;subst hcb
      refine LJ.wk (Wk.cons hb (Wk.refl t)) (LJ.guard hg hd' hN ?_)
      rw[ae,if_pos rfl]
      exact⟨fun _=>(d6 he).mono fun t σ h=>gA al (k+1) t σ h,fun hne=>absurd rfl hne⟩
     have no:∀c,b=c→vL X all al (putT o.dst (.tup []) ((d,.d (.v (.bool c)))::t)) σ Q→c≠b0→LJ X all k (o::al) t σ Q:=fun c hc he hcb=>by
      subst hc
      refine LJ.wk (Wk.cons hb (Wk.refl t)) (LJ.guard hg hd' hN ?_)
      rw[ae,if_pos rfl]
      exact⟨fun e=>absurd e hcb,fun _=>gA al (k+1) _ σ he⟩
     cases b0 with
     |true=>cases b with
      |true=>exact yes true rfl (h.1 rfl) rfl
      |false=>exact no false rfl (h.2 rfl) (by simp)
     |false=>cases b with
      |true=>exact no true rfl (h.1 rfl) (by simp)
      |false=>exact yes false rfl (h.2 rfl) rfl
    ·next hb=>
     refine LJ.guard hg hd' hN ?_
     rw[hb]
     exact gA al (k+1) _ σ h
    ·exact h.elim
   ·exact h.elim
def vZ (X:Cx)(o:Oper)(t:T):Option (List AV):=match o.op with
 |.alloc e=>(match dV X.P e with
  |some z=>(match cz (bo z)with|true=>some (aE (bo z))|false=>none)
  |none=>none)
 |.box _ x=>(match ge t x with
  |some av=>(match cz av with|true=>some (aE av)|false=>none)
  |none=>none)
 |_=>none
theorem mC {X:Cx}{o:Oper}{t:T}{cs:List AV}(h:vZ X o t=some cs):NewJ X o t cs:=by
 obtain⟨d,op,ty,pos,aft,g⟩:=o
 unfold vZ at h
 simp only at h
 split at h
 ·next e=>
  split at h
  ·next z hz=>
   split at h
   ·next h1=>
    cases h
    intro γ H a w so
    obtain⟨us,hu,hl,hr⟩:=cQ (bQ γ H z) h1
    refine⟨us,e,?_,hl,hr⟩
    rw[aG (by simp)]
    simp[execOp,Instr.alloc,newVar,newRow,hu,bL hz]
   ·cases h
  ·cases h
 ·next e x=>
  split at h
  ·next av hx=>
   split at h
   ·next h1=>
    cases h
    intro γ H a w so
    obtain⟨us,hu,hl,hr⟩:=cQ (so x (by simp[Op.operands]) _ hx) h1
    refine⟨us,e,?_,hl,hr⟩
    rw[aG (by simp)]
    simp[execOp,Instr.box,newVar,newRow,hu]
   ·cases h
  ·cases h
 ·cases h
inductive QuietP (X:Cx)(o:Oper)(t:T)(σ:Sg)(K:AV→Prop)(K2:Nat→AV→Ent→Prop):Prop where
 |of {V:AV} (h:QJ X o t σ V) (k:K V):QuietP X o t σ K K2
 |born {id:Nat} {V:AV} {e:Ent} (h:BirthJ X o t σ id V e) (k:K2 id V e):QuietP X o t σ K K2
def rN (X:Cx)(o:Oper)(t:T)(σ bs:Sg)(K:T→Sg→Prop):Prop:=match vZ X o t,o.dst,o.guard with
 |some cs,some id,none=>(match am id t (bs++σ) X.pin&&!cs.any (aP id)&&dOk (some id) X.N&&bs.all (fun p=>!aJ p.1 (.cells cs))with
  |true=>K ((id,.box id 0)::t) ((id,.cells cs)::bs)
  |false=>False)
 |_,d,gd=>qw X o t σ (fun V=>match dOk d X.N&&bs.all (fun p=>!aP p.1 V)with|true=>K (putT d V t) bs|false=>False)
  (QuietP X o t σ (fun V=>match dOk d X.N&&bs.all (fun p=>!aP p.1 V)with|true=>K (putT d V t) bs|false=>False)
   fun id V e=>match d,gd with
    |some id',none=>(match Nat.beq id id'&&am id t (bs++σ) X.pin&&dOk (some id) X.N&&bs.all (fun p=>!aJ p.1 e)&&bs.all (fun p=>!aP p.1 V)with
     |true=>K ((id,V)::t) ((id,e)::bs)
     |false=>False)
    |_,_=>False)
def vB (X:Cx)(all:Array Oper)(σ:Sg)(Q:T→Sg→Prop):List Oper→T→Sg→Prop
 |[],t,bs=>Q t (bs++σ)
 |o::al,t,bs=>match o.guard with
  |none=>rN X o t σ bs fun t bs=>vB X all σ Q al t bs
  |some (j,b0)=>match p4 all j,dOk o.dst X.N with
   |some d,true=>(match look d t with
    |some (.d (.v (.bool b)))=>grd b0 b d t (fun t=>rN X o t σ bs fun t bs=>vB X all σ Q al t bs) (fun t=>vB X all σ Q al (putT o.dst (.tup []) t) bs)
    |some (.tup [])=>vB X all σ Q al (putT o.dst (.tup []) t) bs
    |_=>False)
   |_,_=>False
theorem CB.wk {X:Cx}{all:Array Oper}{σ:Sg}{Q:T→Sg→Prop}:∀(al:List Oper)(t t':T)(bs:Sg),Wk t' t→(∀p,p∈t→p∈t')→CB X all σ Q al t' bs→CB X all σ Q al t bs
 |[],t,t',bs,hw,_,⟨t'',h1,h2⟩=>⟨t'',h1.trans hw,h2⟩
 |o::al,t,t',bs,hw,hm,h=>by
  rcases h with⟨V,h1,h2,h3,h4⟩|⟨id,V,e,hd,hg,hn,hN,hf,hb,hv,h4⟩
  ·refine .inl ⟨V,h1.wk hw,h2,h3,CB.wk al _ _ bs hw.put (fun p hp=>?_) h4⟩
   cases ho:o.dst with
   |none=>rw[ho]at hp;exact hm p hp
   |some d=>
    rw[ho]at hp
    rcases List.mem_cons.1 hp with h|h
    ·exact List.mem_cons.2 (.inl h)
    ·exact List.mem_cons.2 (.inr (hm p h))
  ·refine .inr ⟨id,V,e,hd,hg,hn.wk hw,hN,mj hf hm,hb,hv,CB.wk al _ _ _ (fun i a hi=>?_) (fun p hp=>?_) h4⟩
   ·rw[ae]at hi ⊢
    split
    ·next e=>rw[if_pos e]at hi;exact hi
    ·next e=>rw[if_neg e]at hi;exact hw i a hi
   ·rcases List.mem_cons.1 hp with h|h
    ·exact List.mem_cons.2 (.inl h)
    ·exact List.mem_cons.2 (.inr (hm p h))
theorem mb {X:Cx}{all:Array Oper}{o:Oper}{t:T}{σ bs:Sg}{al:List Oper}{Q:T→Sg→Prop}{K:T→Sg→Prop}(hK:∀t bs,K t bs→CB X all σ Q al t bs)
 (hg:o.guard=none∨∃j b d,o.guard=some (j,b)∧((all[j]?).bind (·.dst))=some d∧look d t=some (.d (.v (.bool b))))(h:rN X o t σ bs K):CB X all σ Q (o::al) t bs:=by
 have fin:∀V,QJ X o t σ V→(match dOk o.dst X.N&&bs.all (fun p=>!aP p.1 V)with|true=>K (putT o.dst V t) bs|false=>False)→CB X all σ Q (o::al) t bs:=fun V hq hk=>by
  split at hk
  ·next hb=>
   simp only[Bool.and_eq_true]at hb
   rcases hg with hg|⟨j,b,d,h1,h2,h3⟩
   ·exact CB.q hg hq hb.1 hb.2 (hK _ _ hk)
   ·exact Gp h1 h2 h3 hq hb.1 hb.2 (hK _ _ hk)
  ·exact hk.elim
 unfold rN at h
 split at h
 ·next cs id hb hd hg0=>
  split at h
  ·next hx=>
   simp only[Bool.and_eq_true,Bool.not_eq_true']at hx
   exact CB.born hd hg0 (mC hb) hx.1.1.2 hx.1.2 hx.1.1.1 hx.2 (hK _ _ h)
  ·exact h.elim
 ·rcases iN h with⟨V,hq,hk⟩|h
  ·exact fin V hq hk
  ·cases h with
   |of hq hk=>exact fin _ hq hk
   |born hb hk=>
    split at hk
    ·next id' hd hg0=>
     split at hk
     ·next hx=>
      simp only[Bool.and_eq_true]at hx
      obtain rfl:=Nat.eq_of_beq_eq_true hx.1.1.1.1
      exact CB.birth hd hg0 hb hx.1.1.2 hx.1.1.1.2 hx.1.2 hx.2 (hK _ _ hk)
     ·exact hk.elim
    ·exact hk.elim
theorem ft {X:Cx}{all:Array Oper}{σ:Sg}{Q:T→Sg→Prop}:∀(al:List Oper)(t:T)(bs:Sg),vB X all σ Q al t bs→CB X all σ Q al t bs
 |[],t,bs,h=>CB.done h
 |o::al,t,bs,h=>by
  unfold vB at h
  split at h
  ·next hg=>exact mb (fun t bs h=>ft al t bs h) (.inl hg) h
  ·next j b0 hg=>
   split at h
   ·next d hd hN=>
    have hd':((all[j]?).bind (·.dst))=some d:=by rw[kY];exact hd
    split at h
    ·next b hb=>
     have yes:∀c,b=c→rN X o ((d,.d (.v (.bool c)))::t) σ bs (fun t bs=>vB X all σ Q al t bs)→c=b0→CB X all σ Q (o::al) t bs:=fun c hc he hcb=>by
      subst hc;subst hcb
      exact CB.wk _ _ _ _ (Wk.cons hb (Wk.refl t)) (fun p hp=>List.mem_cons.2 (.inr hp)) (mb (fun t bs h=>ft al t bs h) (.inr ⟨j,b,d,hg,hd',by rw[ae,if_pos rfl]⟩) he)
     have no:∀c,b=c→vB X all σ Q al (putT o.dst (.tup []) ((d,.d (.v (.bool c)))::t)) bs→c≠b0→CB X all σ Q (o::al) t bs:=fun c hc he hcb=>by
      subst hc
      exact CB.wk _ _ _ _ (Wk.cons hb (Wk.refl t)) (fun p hp=>List.mem_cons.2 (.inr hp)) (CB.no hg hd' (by rw[ae,if_pos rfl]) (by cases b<;>cases b0<;>simp_all) hN (ft al _ bs he))
     cases b0 with
     |true=>cases b with
      |true=>exact yes true rfl (h.1 rfl) rfl
      |false=>exact no false rfl (h.2 rfl) (by simp)
     |false=>cases b with
      |true=>exact no true rfl (h.1 rfl) (by simp)
      |false=>exact yes false rfl (h.2 rfl) rfl
    ·next hb=>exact Fy hg hd' hb hN (ft al _ bs h)
    ·exact h.elim
   ·exact h.elim
def Ee:Op→Bool
 |.store _ _ _|.mapUpdate _ _ _ _|.mapEntry _ _ _|.entryStore _ _ _ _|.insert _ _ _ _|.next _ _|.makeMap _ _=>true
 |.call ⟨.builtin .append,_,_⟩|.call ⟨.builtin .copy,_,_⟩|.call ⟨.builtin .delete,_,_⟩=>true
 |.call ⟨.value (.tmp _),_,_⟩=>true
 |_=>false
def gn:List Oper→Nat
 |[]=>0
 |o::r=>match Ee o.op with
  |true=>0
  |false=>gn r+1
def zI (ops:Array Oper):Bool:=oP ops (gn ops.toList)&&Nat.ble (gn ops.toList) ops.size
def u6:List Oper→List Oper
 |[]=>[]
 |o::r=>match Ee o.op with
  |true=>[]
  |false=>o::u6 r
def sQ:List Oper→List Oper
 |[]=>[]
 |o::r=>match Ee o.op with
  |true=>o::r
  |false=>sQ r
theorem rJ:∀l:List Oper,u6 l=l.take (gn l)
 |[]=>rfl
 |o::r=>by
  unfold u6 gn
  split
  ·rfl
  ·rw[rJ r];rfl
theorem sP:∀l:List Oper,sQ l=l.drop (gn l)
 |[]=>rfl
 |o::r=>by
  unfold sQ gn
  split
  ·rfl
  ·rw[sP r];rfl
def RegP (X:Cx)(id:Nat)(ops:Array Oper)(t:T)(σ:Sg)(Q:T→Sg→Prop):Prop:=∀Q':Qt,(∀t σ,Q t σ→Q' .normal t σ)→WJ X (.region id ops true) t σ Q'
theorem RegP.of {X:Cx}{id:Nat}{ops:Array Oper}{t:T}{σ:Sg}{Q:T→Sg→Prop}(hm:X.P.follows .mixedOrders=true)(hc:zI ops=true)
 (h:vB X ops σ (fun t σ=>vL X ops (sQ ops.toList) t σ Q) (u6 ops.toList) t []):RegP X id ops t σ Q:=by
 intro Q' hQ
 simp only[zI,Bool.and_eq_true,Nat.ble_eq]at hc
 refine Ad (gn ops.toList) hm hc.1 hc.2 ?_
 rw[←rJ]
 have h':=ft _ _ _ h
 have mono:∀(al:List Oper)(t:T)(bs:Sg),CB X ops σ (fun t σ=>vL X ops (sQ ops.toList) t σ Q) al t bs→CB X ops σ (fun t σ=>LJ X ops (gn ops.toList) (ops.toList.drop (gn ops.toList)) t σ (Q' .normal)) al t bs:=by
  intro al
  induction al with
  |nil=>
   rintro t bs ⟨t',h1,h2⟩
   refine⟨t',h1,?_⟩
   rw[←sP]
   exact(gA _ _ _ _ h2).mono hQ
  |cons o r ih=>
   intro t bs h
   rcases h with⟨V,h1,h2,h3,h4⟩|⟨id,V,e,hd,hg,hn,hN,hf,hb,hv,h4⟩
   ·exact .inl ⟨V,h1,h2,h3,ih _ _ h4⟩
   ·exact .inr ⟨id,V,e,hd,hg,hn,hN,hf,hb,hv,ih _ _ h4⟩
 exact mono _ _ _ h'
def vc (X:Cx):Code→T→Sg→Qt→Prop
 |.skip,t,σ,Q=>Q .normal t σ
 |.label _,t,σ,Q=>Q .normal t σ
 |.seq a b,t,σ,Q=>vc X a t σ fun e t σ=>match e with
  |.normal=>vc X b t σ Q
  |e=>Q e t σ
 |.cond c a b,t,σ,Q=>(match ge t c with
  |some (.d (.v (.bool x)))=>Spl x (vc X a t σ Q) (vc X b t σ Q)
  |_=>False)
 |.block id c,t,σ,Q=>vc X c t σ fun e t σ=>match e with
  |.exit id'=>(match Nat.beq id' id with
   |true=>Q .normal t σ
   |false=>Q (.exit id') t σ)
  |e=>Q e t σ
 |.region _ ops false,t,σ,Q=>vL X ops ops.toList t σ (Q .normal)
 |.region id ops true,t,σ,Q=>RegP X id ops t σ (Q .normal)
 |.exit id,t,σ,Q=>Q (.exit id) t σ
 |.goto l,t,σ,Q=>Q (.goto l) t σ
 |.ret,t,σ,Q=>Q .ret t σ
 |c,t,σ,Q=>WJ X c t σ Q
theorem aq {X:Cx}:∀(c:Code)(t:T)(σ:Sg)(Q:Qt),vc X c t σ Q→WJ X c t σ Q
 |.skip,t,σ,Q,h=>WJ.skip h
 |.label l,t,σ,Q,h=>fun γ H _ _ s=>wpIn_label ⟨γ,H,t,σ,s,h⟩
 |.seq a b,t,σ,Q,h=>WJ.seq ((aq a t σ _ h).mono fun e t σ q=>by
  cases e<;>first|exact aq b t σ Q q|exact q)
 |.cond c a b,t,σ,Q,h=>by
  unfold vc at h
  split at h
  ·next x hx=>
   intro γ H ac w s
   exact wpIn_cond_split (t:=x) (aV (aT s.tmp hx)) (fun e=>aq a t σ Q (h.1 e) γ H ac w s) (fun e=>aq b t σ Q (h.2 e) γ H ac w s)
  ·exact h.elim
 |.block id c,t,σ,Q,h=>WJ.block ((aq c t σ _ h).mono fun e t σ q=>by
  cases e<;>exact q)
 |.region id ops false,t,σ,Q,h=>WJ.region (gA _ 0 t σ h)
 |.region id ops true,t,σ,Q,h=>h Q fun _ _ h=>h
 |.exit id,t,σ,Q,h=>WJ.exit h
 |.goto l,t,σ,Q,h=>WJ.goto h
 |.ret,t,σ,Q,h=>WJ.ret h
 |.loop c,t,σ,Q,h=>h
 |.rangeFunc ..,t,σ,Q,h=>h
 |.scope c,t,σ,Q,h=>h
 |.refuse w,t,σ,Q,h=>h
def DV (X:Cx)(t:T)(σ:Sg):ResultVar→Option AV
 |.tmp i=>look i t
 |.cell i ty=>match look i t with
  |some (.box j off)=>(match look j σ with
   |some (.cells cs)=>(match jk X.P ty,fu X.P ty with
    |some true,some n=>(match Nat.ble (off+n) cs.length with
     |true=>some (.agg ((cs.drop off).take n))
     |false=>none)
    |some false,_=>cs[off]?
    |_,_=>none)
   |_=>none)
  |_=>none
def jX (X:Cx)(t:T)(σ:Sg):List ResultVar→Option (List AV)
 |[]=>some []
 |r::l=>match DV X t σ r with
  |some a=>match jX X t σ l with
   |some zs=>some (a::zs)
   |none=>none
  |none=>none
def FinP (X:Cx)(σ:Sg)(r:AV)(Q:AV→Sg→Prop):Prop:=∃σ' r',PubR σ r σ' r'∧eZ X.pin r' σ'∧Q r' σ'
theorem FinP.open {X:Cx}{σ:Sg}{r:AV}{Q:AV→Sg→Prop}(h:r.open=true)(k:Q r []):FinP X σ r Q:=
 ⟨[],r,.wk (Wk.nil _),⟨(fun j hj=>by rw[gS h]at hj;cases hj),(fun i e hi=>by simp[look]at hi)⟩,k⟩
theorem FinP.of {X:Cx}{σ:Sg}{r:AV}{Q:AV→Sg→Prop}(σ':Sg)(hw:Wk σ' σ)(hc:eZ X.pin r σ')(k:Q r σ'):FinP X σ r Q:=⟨σ',r,.wk hw,hc,k⟩
theorem FinP.view {X:Cx}{σ:Sg}{r r1:AV}{Q:AV→Sg→Prop}(hv:∀γ H u,Rep γ H r u→Rep γ H r1 u)(k:FinP X σ r1 Q):FinP X σ r Q:=
 let⟨σ',r',hp,hc,hq⟩:=k;⟨σ',r',.view hv hp,hc,hq⟩
theorem FinP.pub {X:Cx}{σ:Sg}{r:AV}{Q:AV→Sg→Prop}(i:Nat){e:Ent}{p:Pub}(hi:look i σ=some e)(hp:kB e=some p)(k:FinP X ((i,.gone)::ph i p σ) (tP i p r) Q):FinP X σ r Q:=
 let⟨σ',r',h1,hc,hq⟩:=k;⟨σ',r',.pub i hi hp (fun _ _ _ ok rr=>g9 ok rr) h1,hc,hq⟩
theorem FinP.pubA {X:Cx}{σ:Sg}{Q:AV→Sg→Prop}(i:Nat){k n:Nat}{xs:List (List D)}(hi:look i σ=some (.arr k xs))(hn:n≤xs.length)(hm:n≤9223372036854775807)
 (kk:FinP X ((i,.gone)::ph i (.a k xs) σ) (.d (.sl k (xs.take n))) Q):FinP X σ (.arr i k n) Q:=
 let⟨σ',r',h1,hc,hq⟩:=kk;⟨σ',r',.pub i hi rfl (fun γ H u ok rr=>by
  cases rr with
  |arr _ _ _ A h1 hA=>exact .d _ _ (ok n A hn h1 hA hm)) h1,hc,hq⟩
def one:List AV→AV
 |[r]=>r
 |rs=>.tup rs
def DF (X:Cx)(fn:Func)(Q:AV→Sg→Prop):Qt
 |.normal,t,σ=>(match jX X t σ fn.results.toList with
  |some rs=>FinP X σ (one rs) Q
  |none=>False)
 |.ret,t,σ=>(match jX X t σ fn.results.toList with
  |some rs=>FinP X σ (one rs) Q
  |none=>False)
 |_,_,_=>False
end Go.Gv
end
section
namespace Go.Gv
open Go.RowKit
universe u
theorem tU {X:Cx}{γ:Ids}{H:HF}{t:T}{σ:Sg}{a:Act}{w:World}(s:St X γ H t σ a w){rv:ResultVar}{r:AV}(h:DV X t σ rv=some r):
 ∃v,(match rv with
  |.tmp t=>pure (a.tmps.getD t undef)
  |.cell c t=>do loadVar t (←asAddr (a.tmps.getD c undef)):Sem Value).run X.P w=.ok v w∧Rep γ H r v:=by
 cases rv with
 |tmp i=>
  obtain⟨u,hu,hr⟩:=s.tmp i r h
  exact⟨u,by simp[Array.getD_eq_getD_getElem?,hu],hr⟩
 |cell i ty=>
  simp only[DV]at h
  split at h
  ·next j off hi=>
   obtain⟨u,hu,hr⟩:=s.tmp i _ hi
   have hq:=cR rfl hr
   split at h
   ·next cs hj=>
    obtain⟨tt,us,h2,h3,h4⟩:=s.mem.ent j _ hj
    split at h
    ·next n ha hs=>
     split at h
     ·next hb=>
      cases h
      have hle:=Nat.le_of_ble_eq_true hb
      have:=fW (P:=X.P) (w:=w) (b:=(γ j).b) (off:=off) (us:=(us.drop off).take n) (bK ha) (aK hs) (by simp;omega) (fun l hl=>by
       rw[aU h2,List.getElem?_take,if_pos hl,List.getElem?_drop])
      exact⟨_,by simp[Array.getD_eq_getD_getElem?,hu,hq,asAddr,this],qt h3 h4⟩
     ·cases h
    ·next _ ha=>
     have hlt:off<us.length:=by rw[h3];exact(List.getElem?_eq_some_iff.1 h).1
     have hc:w.cell? ⟨(γ j).b,off,none⟩=some us[off]:=by rw[aU h2];simp[hlt]
     exact⟨us[off],by simp[Array.getD_eq_getD_getElem?,hu,hq,asAddr,dC (bK ha) hc],h4 _ r _ h (by simp[hlt])⟩
    ·cases h
   ·cases h
  ·cases h
theorem kx {X:Cx}{γ:Ids}{H:HF}{t:T}{σ:Sg}{a:Act}{w:World}(s:St X γ H t σ a w):∀{l:List ResultVar}{rs:List AV},jX X t σ l=some rs→
 ∃vs:List Value,(l.mapM (fun
  |.tmp t=>pure (a.tmps.getD t undef)
  |.cell c t=>do loadVar t (←asAddr (a.tmps.getD c undef)):ResultVar→Sem Value)).run X.P w=.ok vs w∧vs.length=rs.length∧∀(j:Nat)(x:AV)(u:Value),rs[j]?=some x→vs[j]?=some u→Rep γ H x u
 |[],rs,h=>by
  simp only[jX,Option.some.injEq]at h;subst h
  exact⟨[],by simp,rfl,fun j x u h=>by simp at h⟩
 |r::l,rs,h=>by
  simp only[jX]at h
  split at h
  ·next av hr=>
   split at h
   ·next asz hl=>
    simp only[Option.some.injEq]at h;subst h
    obtain⟨v,hv,rep⟩:=tU s hr
    obtain⟨vs,hvs,hlen,reps⟩:=kx s hl
    refine⟨v::vs,?_,by simp[hlen],fun j x u hx hu=>?_⟩
    ·simp only[List.mapM_cons,Sem.run_bind,hv,Result.andThen_ok,hvs,Sem.run_pure]
    ·cases j with
     |zero=>simp at hx hu;subst hx;subst hu;exact rep
     |succ j=>exact reps j x u (by simpa using hx) (by simpa using hu)
   ·cases h
  ·cases h
theorem nh {X:Cx}{fn:Func}{Q:AV→Sg→Prop}{e:Exit}{t:T}{σ:Sg}(h:DF X fn Q e t σ):Ret X fn Q e t σ:=by
 have key:(match jX X t σ fn.results.toList with
  |some rs=>FinP X σ (one rs) Q
  |none=>False)→∃r σ',Ak X fn t σ r σ'∧eZ X.pin r σ'∧Q r σ':=fun h=>by
  split at h
  ·next rs hrs=>
   obtain⟨σ',r',hw,hc,hq⟩:=h
   refine⟨r',σ',fun γ H a w s=>?_,hc,hq⟩
   obtain⟨vs,hvs,hlen,reps⟩:=kx s hrs
   have hm:(fn.results.mapM (fun
    |.tmp t=>pure (a.tmps.getD t undef)
    |.cell c t=>do loadVar t (←asAddr (a.tmps.getD c undef)):ResultVar→Sem Value)).run X.P w=.ok vs.toArray w:=by
    rw[Array.mapM_eq_mapM_toList]
    simp only[Sem.run_map,hvs,Result.andThen_ok]
   have hres:(results fn a.tmps).run X.P w=.ok (if h:vs.toArray.size=1 then vs.toArray[0]else .tuple vs.toArray) w:=by
    unfold results
    simp only[Sem.run_bind]
    refine(congrArg (fun r=>Result.andThen r _) hm).trans ?_
    simp only[Result.andThen_ok,Sem.run_pure]
   suffices hr:Rep γ H (one rs) (if h:vs.toArray.size=1 then vs.toArray[0]else .tuple vs.toArray)by
    obtain⟨H',s',r⟩:=hw.sound s hr
    exact⟨_,γ,H',hres,s',r⟩
   clear hrs hvs hm hres hw hc hq
   match rs,vs,hlen,reps with
   |[],[],_,_=>exact .tup [] [] rfl fun j x u h=>by simp at h
   |[r],[v],_,reps=>exact reps 0 r v rfl rfl
   |r::r'::rs,v::v'::vs,hlen,reps=>
    have:¬((v::v'::vs).toArray.size=1):=by simp
    rw[dif_neg this]
    exact .tup _ _ hlen reps
  ·exact h.elim
 cases e<;>first|exact key h|exact h
theorem ab {Λ:Amb}{P:Program}{f:FuncId}(fn:Func){c:Code}{avs:List AV}{σ:Sg}{Q:AV→Sg→Prop}(hf:P.funcs[f]?=some fn)(hb:fn.body=some c)
 (hl:Nat.ble avs.length fn.ntmps=true)
 (h:∀w H B g0,vc ⟨P,Λ,none,w,H,B,fn.ntmps,fz σ,g0⟩ c (eo 0 avs) σ (DF ⟨P,Λ,none,w,H,B,fn.ntmps,fz σ,g0⟩ fn Q)):Ct Λ P f avs σ Q:=
 tH fn.ntmps hf hb rfl (Nat.le_of_ble_eq_true hl) fun w H B g0=>(aq _ _ _ _ (h w H B g0)).mono fun _ _ _ q=>nh q
def D6:List Oper→List Nat→List Nat
 |[],acc=>acc
 |o::r,acc=>match o.dst with
  |some d=>D6 r (d::acc)
  |none=>D6 r acc
def dq:Code→List Nat→List Nat
 |.region _ ops _,acc=>D6 ops.toList acc
 |.seq a b,acc=>dq a (dq b acc)
 |.cond _ a b,acc=>dq a (dq b acc)
 |.block _ a,acc=>dq a acc
 |.loop a,acc=>dq a acc
 |.scope a,acc=>dq a acc
 |.rangeFunc _ ps a b,acc=>ps.toList++dq a (dq b acc)
 |_,acc=>acc
def sp (i:Nat):List Nat→Bool
 |[]=>false
 |j::r=>match Nat.beq i j with
  |true=>true
  |false=>sp i r
def gP (ws:List Nat):T→T
 |[]=>[]
 |(i,a)::t=>match sp i ws with
  |true=>gP ws t
  |false=>(i,a)::gP (i::ws) t
theorem pG {i j:Nat}{ws:List Nat}:sp i (j::ws)=if i=j then true else sp i ws:=by
 simp only[sp]
 by_cases h:i=j
 ·subst h;simp
 ·have:Nat.beq i j=false:=by rw[←Bool.not_eq_true,Nat.beq_eq];exact h
  simp[this,h]
theorem lL:∀{ws:List Nat}{t:T}{i:Nat},sp i ws=true→look i (gP ws t)=none
 |ws,[],i,_=>rfl
 |ws,(j,a)::t,i,h=>by
  simp only[gP]
  split
  ·exact lL h
  ·next hj=>
   rw[ae]
   have:i≠j:=fun e=>by subst e;rw[h]at hj;cases hj
   rw[if_neg this]
   exact lL (by rw[pG];simp[h])
theorem kO:∀(ws:List Nat)(t:T),Wk (gP ws t) t
 |ws,[],i,b,h=>by simp[gP,look]at h
 |ws,(j,a)::t,i,b,h=>by
  simp only[gP]at h
  rw[ae]
  split at h
  ·next hj=>
   have:i≠j:=fun e=>by
    subst e
    rw[lL hj]at h;cases h
   rw[if_neg this]
   exact kO ws t i b h
  ·rw[ae]at h
   split at h
   ·next e=>rw[if_pos e];exact h
   ·next e=>rw[if_neg e];exact kO (j::ws) t i b h
def Has {α:Type u}:List (Nat×α)→List (Nat×α)→Prop
 |[],_=>True
 |(i,a)::r,l=>look i l=some a∧Has r l
theorem Has.wk {α:Type u}:∀{l' l:List (Nat×α)},Has l' l→Wk l' l
 |[],_,_=>Wk.nil _
 |(_,_)::_,_,h=>Wk.cons h.1 h.2.wk
theorem jl {X:Cx}{c:Code}{t:T}{σ:Sg}{Q:Qt}{V:Type}(T0:V→T)(S0:V→Sg)(μ:V→Nat)(I:V→Prop)(v0:V)(h0:I v0)(ht:Has (T0 v0) t)(hs:Has (S0 v0) σ)
 (round:∀v,I v→vc X c (T0 v++gP (dq c []) t) (S0 v) fun e t' σ'=>match e with
  |.normal=>∃v',I v'∧μ v'<μ v∧Has (T0 v') t'∧Has (gP (dq c []) t) t'∧Has (S0 v') σ'
  |e=>Q e t' σ'):WJ X (.loop c) t σ Q:=by
 refine WJ.loop (fun n t' σ'=>∃v,I v∧n=μ v∧Wk (T0 v++gP (dq c []) t) t'∧Wk (S0 v) σ') (μ v0) ⟨v0,h0,rfl,?_,hs.wk⟩ ?_
 ·intro i x hi
  rw[dB]at hi
  cases hx:look i (T0 v0)with
  |some y=>rw[hx,Option.some_or]at hi;rw[←hi];exact ht.wk i y hx
  |none=>rw[hx]at hi;simp only[Option.none_or]at hi;exact kO _ _ i x hi
 ·rintro n t' σ' ⟨v,hv,rfl,ht',hs'⟩
  refine WJ.wk ht' hs' ((aq _ _ _ _ (round v hv)).mono fun e t'' σ'' q=>?_)
  cases e with
  |normal=>
   obtain⟨v',h1,h2,h3,h4,h5⟩:=q
   refine⟨μ v',h2,v',h1,rfl,fun i x hi=>?_,h5.wk⟩
   rw[dB]at hi
   cases hx:look i (T0 v')with
   |some y=>rw[hx,Option.some_or]at hi;rw[←hi];exact h3.wk i y hx
   |none=>rw[hx]at hi;simp only[Option.none_or]at hi;exact h4.wk i x hi
  |exit id=>exact q
  |goto l=>exact q
  |ret=>exact q
  |panic ch=>exact q
  |outgrown=>exact q
end Go.Gv
end
section
namespace Go.Gv
open Go.RowKit
section
variable {X:Cx} {d:Option Nat} {ty:TypeId} {pos:String} {aft:Array Edge} {g:Option (Nat×Bool)} {t:T} {σ:Sg}
theorem aa {K:T→Sg→Prop}{f:FuncId}{args:Array Operand}{tys:Array TypeId}{avs:List AV}{r:AV}(hc:Ct X.Λ X.P f avs [] (fun q _=>q=r))(hok:fI X.P f)
 (ha:iE t args.toList=some avs)(ho:r.open=true)(hN:dOk d X.N=true)(k:K (putT d r t) σ):OpJ X ⟨d,.call {callee:=.value (.func f),args:=args,argTypes:=tys},ty,pos,aft,g⟩ t σ K:=
 OpJ.quiet (QJ.call hc hok ha ho) hN k
theorem aR {K:T→Sg→Prop}{o:Oper}{V:AV}(h:QJ X o t σ V)(hN:dOk o.dst X.N=true)(k:K (putT o.dst V t) σ):OpJ X o t σ K:=OpJ.quiet h hN k
end
section
variable {X:Cx} {d:Option Nat} {ty:TypeId} {pos:String} {aft:Array Edge} {g:Option (Nat×Bool)} {t:T} {σ:Sg}
def veq:Value→Value→Bool
 |.int _ a,.int _ b=>a==b
 |.bool a,.bool b=>a==b
 |.string a,.string b=>a.toList==b.toList
 |_,_=>false
def dH:List AV→Option (List Value)
 |[]=>some []
 |.d (.v x)::r=>match dH r with
  |some l=>some (x::l)
  |none=>none
 |_::_=>none
theorem fq {γ:Ids}{H:HF}:∀{cs:List AV}{xs us:List Value},dH cs=some xs→us.length=cs.length→(∀(j:Nat)(a:AV)(u:Value),cs[j]?=some a→us[j]?=some u→Rep γ H a u)→us=xs
 |[],xs,us,h,hl,_=>by
  simp only[dH,Option.some.injEq]at h;subst h
  exact List.length_eq_zero_iff.1 hl
 |.d (.v x)::r,xs,u::us,h,hl,hr=>by
  simp only[dH]at h
  split at h
  ·next l hl'=>
   simp only[Option.some.injEq]at h;subst h
   have h8:=aV (hr 0 _ u rfl rfl)
   have h9:=fq (us:=us) hl' (by simpa using hl) fun j a u h1 h2=>hr (j+1) a u (by simpa using h1) (by simpa using h2)
   rw[h8,h9]
  ·cases h
 |_::_,_,[],_,hl,_=>by simp at hl
 |.d (.sl ..)::_,_,_,h,_,_|.d (.ptr ..)::_,_,_,h,_,_|.d (.fn ..)::_,_,_,h,_,_|.d (.ifc ..)::_,_,_,h,_,_|.d (.ifa ..)::_,_,_,h,_,_=>by simp[dH]at h
 |.d (.mp ..)::_,_,_,h,_,_|.full ..::_,_,_,h,_,_|.boxX ..::_,_,_,h,_,_|.box ..::_,_,_,h,_,_|.arr ..::_,_,_,h,_,_|.suf ..::_,_,_,h,_,_|.fnp ..::_,_,_,h,_,_|.agg ..::_,_,_,h,_,_|.tup ..::_,_,_,h,_,_|.mp ..::_,_,_,h,_,_|.junk::_,_,_,h,_,_=>by simp[dH]at h
def vM (P:Program)(xs ys:List Value):List Field→Bool
 |[]=>true
 |f::fs=>(match P.underlying f.type,xs[f.offset]?,ys[f.offset]? with
  |some (.int _),some (.int k _),some (.int k' _)=>decide (k=k')
  |some .bool,some (.bool _),some (.bool _)=>true
  |some .string,some (.string _),some (.string _)=>true
  |_,_,_=>false)&&vM P xs ys fs
def oD (xs ys:List Value):List Field→Bool
 |[]=>true
 |f::fs=>(if f.name= "_" then true else match xs[f.offset]?,ys[f.offset]? with
  |some x,some y=>veq x y
  |_,_=>false)&&oD xs ys fs
theorem fB {P:Program}{e:TypeId}{d:TypeDesc}(h:P.underlying e=some d)(hd:(match d with|.struct _=>true|.array _ _=>true|_=>false)=false)(w:World):(isAgg e).run P w=.ok false w:=by
 simp only[isAgg,Sem.run_bind,run_underlying h,Result.andThen_ok]
 cases d<;>simp_all
theorem gI {P:Program}{e:TypeId}(ha:∀w,(isAgg e).run P w=.ok false w):∀(cs:Array Value)(i:Nat)(v:Value)(w:World),cs[i]?=some v→(part e cs i).run P w=.ok v w:=by
 intro cs i v w h
 simp[part,ha,h]
theorem kX {P:Program}{w:World}{d:Nat}{xs ys:List Value}:∀(fs:List Field),vM P xs ys fs=true→(Op.eqFields (d+1) xs.toArray ys.toArray fs).run P w=.ok (oD xs ys fs) w
 |[],_=>by simp[Op.eqFields,oD]
 |f::fs,h=>by
  simp only[vM,Bool.and_eq_true]at h
  have ih:=kX fs h.2 (w:=w) (d:=d)
  have one:∃x y,xs[f.offset]?=some x∧ys[f.offset]?=some y∧(part f.type xs.toArray f.offset).run P w=.ok x w∧(part f.type ys.toArray f.offset).run P w=.ok y w∧(Op.equalIn (d+1) f.type x y).run P w=.ok (veq x y) w:=by
   have h1:=h.1
   split at h1
   ·next k' k a k2 b hu hx hy=>
    have:k=k2:=of_decide_eq_true h1
    subst this
    exact⟨_,_,hx,hy,gI (fB hu rfl) _ _ _ w (by simpa using hx),gI (fB hu rfl) _ _ _ w (by simpa using hy),run_equalIn_int w d _ k _ a b hu⟩
   ·next a b hu hx hy=>exact⟨_,_,hx,hy,gI (fB hu rfl) _ _ _ w (by simpa using hx),gI (fB hu rfl) _ _ _ w (by simpa using hy),run_equalIn_bool' w d _ a b hu⟩
   ·next a b hu hx hy=>exact⟨_,_,hx,hy,gI (fB hu rfl) _ _ _ w (by simpa using hx),gI (fB hu rfl) _ _ _ w (by simpa using hy),run_equalIn_string w d _ a b hu⟩
   ·cases h1
  obtain⟨x,y,hx,hy,px,py,pe⟩:=one
  simp only[Op.eqFields,oD,hx,hy]
  by_cases hn:f.name= "_"
  ·simp[hn,ih]
  ·simp only[hn,ne_eq,not_false_eq_true,if_true,if_false,Sem.run_bind,px,py,pe,Result.andThen_ok]
   cases veq x y with
   |true=>simpa using ih
   |false=>simp
theorem Dz {tt yt:TypeId}{x y:Operand}{asz bs:List AV}{xs ys:List Value}{fs:Array Field}{r:Bool}(hx:ge t x=some (.agg asz))(hy:ge t y=some (.agg bs))(hxs:dH asz=some xs)(hys:dH bs=some ys)
 (hu:X.P.underlying tt=some (.struct fs))(hp:X.P.stoodInHeld tt=false)(hg:X.P.eqGuardType X.P.depth tt=false)(hfit:vM X.P xs ys fs.toList=true)(hr:oD xs ys fs.toList=r):
 QJ X ⟨d,.binOp .eql tt x y yt,ty,pos,aft,g⟩ t σ (.d (.v (.bool r))):=
 QJ.value (by simp) (fun γ H a w so sm=>by
  have h1:=so _ (by simp[Op.operands]) _ hx
  have h2:=so _ (by simp[Op.operands]) _ hy
  refine⟨.bool r,?_,.d _ _ (.v _ rfl)⟩
  generalize hq1:a.eval x=q1 at h1
  generalize hq2:a.eval y=q2 at h2
  cases h1 with
  |agg _ us hl1 hr1=>
  cases h2 with
  |agg _ vs hl2 hr2=>
  have e1:=fq hxs hl1 hr1
  have e2:=fq hys hl2 hr2
  subst e1;subst e2
  have hfs:X.P.fieldsOf tt=fs:=by simp[Program.fieldsOf,hu]
  have h3:=run_equalIn_struct (P:=X.P) w 9999 tt us.toArray vs.toArray (by rw[hfs];exact hu) hp
  rw[hfs,kX (d:=9998) _ hfit,hr]at h3
  simp only[execOp,hq1,hq2,Sem.run_bind,run_eql_struct,run_eqGuard_agg w _ _ _ _ _ _ hg,Result.andThen_ok,h3,Sem.run_pure])
def dM:List (List D)→Option (List Int)
 |[]=>some []
 |[.v (.int .u8 n)]::r=>match dM r with
  |some l=>some (n::l)
  |none=>none
 |_::_=>none
theorem gh:∀{xs:List (List D)}{ns:List Int},dM xs=some ns→ns.length=xs.length∧∀(j:Nat)(n:Int),ns[j]?=some n→xs[j]?=some [.v (.int .u8 n)]
 |[],ns,h=>by simp only[dM,Option.some.injEq]at h;subst h;simp
 |x::r,ns,h=>by
  unfold dM at h
  split at h
  ·next he=>cases he
  ·next n r' he=>
   simp only[List.cons.injEq]at he
   obtain⟨rfl,rfl⟩:=he
   split at h
   ·next l hl=>
    simp only[Option.some.injEq]at h;subst h
    obtain⟨h1,h2⟩:=gh hl
    refine⟨by simp[h1],fun j m hm=>?_⟩
    cases j with
    |zero=>simp at hm;subst hm;rfl
    |succ j=>simpa using h2 j m (by simpa using hm)
   ·cases h
  ·cases h
def cZ (ns:List Int):ByteArray:=⟨(ns.map fun n=>UInt8.ofNat n.toNat).toArray⟩
theorem uw (ns:List Int):∀(s:ByteArray),ns.foldl (fun r n=>r.push (UInt8.ofNat n.toNat)) s=⟨s.data++(ns.map fun n=>UInt8.ofNat n.toNat).toArray⟩:=by
 induction ns with
 |nil=>intro s;simp
 |cons n r ih=>
  intro s
  rw[List.foldl_cons,ih]
  apply congrArg ByteArray.mk
  simp[ByteArray.push]
theorem br {src dst el:TypeId}{x:Operand}{av:AV}{xs:List (List D)}{ns:List Int}(hx:ge t x=some av)(hel:elems av=some (1,xs))(hb:dM xs=some ns)
 (hs:X.P.underlying src=some (.slice el))(hd:X.P.underlying dst=some .string)(he:X.P.underlying el=some (.int .u8)):
 QJ X ⟨d,.convert src dst x,ty,pos,aft,g⟩ t σ (.d (.v (.string (cZ ns)))):=
 QJ.value (by simp) (fun γ H a w so sm=>by
  have h1:=dy (so _ (by simp[Op.operands]) _ hx) hel
  refine⟨.string (cZ ns),?_,.d _ _ (.v _ rfl)⟩
  generalize hq:a.eval x=q at h1
  obtain⟨b1,b2⟩:=gh hb
  have hq2:∃A n c,q=.slice A n c:=by cases h1;exact⟨_,_,_,rfl⟩
  have hconv:(Conv.bytesToString q).run X.P w=.ok (.string (cZ ns)) w:=by
   cases h1 with
   |sl _ _ A c b o us hk hn hc hA hH h=>
    cases A with
    |none=>
     have h0:xs=[]:=by
      cases xs with
      |nil=>rfl
      |cons y r=>exact absurd (hA (by simp)) (by simp)
     subst h0
     have:ns=[]:=List.length_eq_zero_iff.1 (by simpa using b1)
     subst this
     simp[Conv.bytesToString,cZ];rfl
    |some ad=>
     have hload:(loadCells ad xs.length).run X.P w=.ok (ns.map (Value.int .u8)).toArray w:=by
      by_cases h0:xs.length=0
      ·have e0:xs=[]:=List.length_eq_zero_iff.1 h0
       subst e0
       have:ns=[]:=List.length_eq_zero_iff.1 (by simpa using b1)
       subst this
       simp[loadCells,loadCellsFrom]
      ·have hA':=hA (by omega)
       simp only[Option.some.injEq]at hA'
       subst hA'
       have key:=du (P:=X.P) (w:=w) (b:=b) (vs:=fun j=>.int .u8 (ns.getD j 0)) xs.length o 0 #[] (fun j hj=>by
        have hjn:j<ns.length:=by omega
        have hx1:=b2 j ns[j] (by simp[hjn])
        have h3:=h j 0 _ _ hx1 (by rfl)
        have h4:us j 0=.int .u8 ns[j]:=aV (γ:=γ) (.d _ _ h3)
        have h5:=hH j 0 hj (by omega)
        rw[h4]at h5
        have h6:=sm.hok.c _ _ _ h5
        rw[show o+0+j=o+j*1+0 from by omega,h6,Nat.zero_add,List.getD_eq_getElem?_getD,List.getElem?_eq_getElem hjn];rfl)
       simp only[loadCells]
       rw[key]
       congr 1
       apply Array.toList_inj.1
       simp only[Array.toList_append,List.nil_append,List.toList_toArray]
       apply List.ext_getElem?
       intro j
       by_cases hj:j<ns.length
       ·simp[hj,b1▸hj,List.getElem?_range',List.getD_eq_getElem?_getD]
       ·rw[List.getElem?_eq_none (by simp;omega),List.getElem?_eq_none (by simp;omega)]
     have:=run_bytesToString w ad xs.length c ns hload
     rw[this,uw]
     simp[cZ]
  obtain⟨A,n,c,rfl⟩:=hq2
  simp only[execOp,hq,convert,Sem.run_bind,run_underlying hs,run_underlying hd,run_underlying he,Result.andThen_ok,hconv,Sem.run_pure])
end
def eV (w:World):HF:=⟨fun b o=>w.cell? ⟨b,o,none⟩,fun b=>match w.heap[b]? with|some (.map es c)=>some (es,c)|_=>none⟩
theorem HOk.le {H:HF}{w:World}(h:HOk H w):HLe H (eV w):=⟨h.c,fun b x hx=>by
 have:=h.m b x.1 x.2 hx
 show(match w.heap[b]? with|some (.map es c)=>some (es,c)|_=>none)=some x
 rw[this]⟩
theorem zR (w:World):HOk (eV w) w:=⟨fun _ _ _ h=>h,fun b es c h=>by
 have h':(match w.heap[b]? with|some (.map es c)=>some (es,c)|_=>none)=some (es,c):=h
 split at h'
 ·next es' c' hb=>simp only[Option.some.injEq,Prod.mk.injEq]at h';obtain⟨rfl,rfl⟩:=h';exact hb
 ·cases h'⟩
inductive View (σ:Sg):AV→AV→Prop where
 |same (a:AV) (h:a.open=true):View σ a a
 |arr (i k n:Nat) (xs:List (List D)) (h:look i σ=some (.arr k xs)) (hn:xs.length=n) (hm:n≤9223372036854775807):View σ (.arr i k n) (.d (.sl k xs))
 |box (i:Nat) (cs:List AV) (ds:List D) (h:look i σ=some (.cells cs)) (hd:fO cs=some ds):View σ (.box i 0) (.d (.ptr ds))
theorem View.sound {σ:Sg}{w0 w:World}{H0 H:HF}{B:Nat→Prop}{γ γ':Ids}(m:Mem w0 H0 B γ H σ w){a b:AV}{u:Value}(v:View σ a b)(r:Rep γ H a u):Rep γ' (eV w) b u:=by
 have hle:HLe H (eV w):=m.hok.le
 cases v with
 |same a h=>exact(r.mono hle).free h
 |arr i k n xs hi hn hm=>
  obtain⟨e1,e2,e3⟩:=m.ent i _ hi
  cases r with
  |arr _ _ _ A hn' hA=>
   refine .d _ _ ?_
   by_cases h0:0<(γ i).n
   ·obtain⟨tt,us,q1,q2,q3⟩:=e3 h0
    have key:=RepD.sl (H:=eV w) k xs A (γ i).n (γ i).b 0 (fun j l=>us.getD (j*k+l) undef) e2 e1 (by omega) (fun _=>hA h0) (fun j l hj hl=>by
     have hlt:j*k+l<us.length:=by
      rw[q2]
      calc j*k+l<j*k+k:=by omega
       _=(j+1)*k:=by rw[Nat.succ_mul]
       _≤(γ i).n*k:=Nat.mul_le_mul_right _ (by omega)
     show w.cell? _=_
     rw[aU q1,Nat.zero_add,List.getD_eq_getElem?_getD,List.getElem?_eq_getElem hlt];rfl) (fun j l cs d hj hd=>by
     have hjl:j<xs.length:=(List.getElem?_eq_some_iff.1 hj).1
     have hlk:l<k:=by rw[←e2 cs (aQ hj)];exact(List.getElem?_eq_some_iff.1 hd).1
     have hlt:j*k+l<us.length:=by
      rw[q2]
      calc j*k+l<j*k+k:=by omega
       _=(j+1)*k:=by rw[Nat.succ_mul]
       _≤(γ i).n*k:=Nat.mul_le_mul_right _ (by omega)
     exact(q3 j l cs d _ hj hd (by rw[List.getD_eq_getElem?_getD,List.getElem?_eq_getElem hlt];rfl)).mono hle)
    rw[hn]at key;exact key
   ·have hxl:xs=[]:=by
     cases xs with
     |nil=>rfl
     |cons x r=>simp only[List.length_cons]at e1;omega
    subst hxl
    have hn0:n=0:=by simpa using hn.symm
    subst hn0
    exact .sl k [] A _ 0 0 (fun _ _=>undef) (fun _ h=>by simp at h) (by simp) (by simp) (fun h=>by simp at h) (fun j i h=>by simp at h) (fun j i cs a h=>by simp at h)
 |box i cs ds hi hd=>
  obtain⟨tt,us,q1,q2,q3⟩:=m.ent i _ hi
  obtain⟨d1,d2⟩:=fE hd
  cases r
  refine .d _ _ (.ptr ds (γ i).b 0 (fun j=>us.getD j undef) (fun j hj=>?_) fun j a ha=>?_)
  ·have hlt:j<us.length:=by omega
   show w.cell? _=_
   rw[aU q1,Nat.zero_add,List.getD_eq_getElem?_getD,List.getElem?_eq_getElem hlt];rfl
  ·obtain⟨x,h1,h2⟩:=d2 j a ha
   have hlt:j<us.length:=by rw[q2];exact(List.getElem?_eq_some_iff.1 h1).1
   exact(fk h2 (q3 j x _ h1 (by rw[List.getD_eq_getElem?_getD,List.getElem?_eq_getElem hlt];rfl))).mono hle
theorem ji (γ:Ids):blks γ []=fun _=>False:=by
 funext b;simp[blks,look]
theorem Mem.quiet {w0 w w':World}{H0 H:HF}{B:Nat→Prop}{γ:Ids}{σ:Sg}(h:Mem w0 H0 B γ H σ w)(k:Keeps w (fun _=>False) w'):Mem w H (fun _=>False) γ H [] w':=
 ⟨k,HLe.refl _,HNew.refl _ _ _,⟨fun b o v hv=>by
  have h1:=h.hok.c b o v hv
  have hlt:=cr h1
  simp only[World.cell?]at h1 ⊢
  rw[k.block b hlt (fun x=>x)];exact h1,fun b es c hv=>by
  have h1:=h.hok.m b es c hv
  exact(k.block b (aF h1) (fun x=>x)).trans h1⟩,fun i e h=>by simp[look]at h,fun i e h=>by simp[look]at h,fun i e h=>by simp[look]at h,fun i e j e' b h=>by simp[look]at h⟩
theorem mI {Λ:Amb}{P:Program}{f:FuncId}{avs:List AV}{V:AV}
 (h:∀(γ:Ids)(H:HF)(w:World)(vs:List Value),Λ.p w→HOk H w→vs.length=avs.length→(∀(j:Nat)(a:AV)(u:Value),avs[j]?=some a→vs[j]?=some u→Rep γ H a u)→Calls P f vs.toArray w fun e w'=>∃v H',e=.returned v∧Rep γ H' V v∧Mem w H (fun _=>False) γ H' [] w'):
 Ct Λ P f avs [] (fun r _=>r=V):=by
 intro ro γ H w vs hΛ hm hlen hr
 have key:CallsIn (Fr none) 0 P f vs.toArray w fun e w'=>∃v r σ' γ' H',e=.returned v∧r=V∧Rep γ' H' r v∧(∀i,look i σ'=none→γ i=γ' i)∧(∀i e,look i ([]:Sg)=some e→e.var=true→γ i=γ' i)∧Mem w H (blks γ []) γ' H' σ' w':=by
  refine callsIn_wide.2 ((h γ H w vs hΛ.1 hm.hok hlen hr).mono fun e w' ⟨v,H',he,hrep,hk⟩=>?_)
  exact⟨v,V,[],γ,H',he,rfl,hrep,fun _ _=>rfl,fun _ _ _ _=>rfl,by rw[ji];exact hk⟩
 cases ro with
 |none=>exact key
 |some l=>exact CallsIn.inRound l key
def fU (xs:List Value):List AV:=xs.map fun x=>.d (.v x)
theorem tT {γ:Ids}{H:HF}{xs vs:List Value}(hl:vs.length=(fU xs).length)(h:∀(j:Nat)(a:AV)(u:Value),(fU xs)[j]?=some a→vs[j]?=some u→Rep γ H a u):vs=xs:=by
 apply List.ext_getElem?
 intro j
 cases hx:xs[j]? with
 |none=>simp[fU]at hl hx;rw[List.getElem?_eq_none];omega
 |some x=>
  have hlt:j<vs.length:=by rw[hl];simp[fU];exact(List.getElem?_eq_some_iff.1 hx).1
  have:=aV (h j (.d (.v x)) vs[j] (by simp[fU,hx]) (by simp[hlt]))
  simp[hlt,this]
theorem cd {Λ:Amb}{P:Program}{f:FuncId}(xs:List Value){V:Value}(h1:V.oneCell'=true)
 (h:∀(w:World),Λ.p w→Calls P f xs.toArray w fun e w'=>e=.returned V∧Keeps w (fun _=>False) w'):Ct Λ P f (fU xs) [] (fun r _=>r=.d (.v V)):=
 mI fun γ H w vs hΛ hok hl hr=>by
  rw[tT hl hr]
  have hm:Mem w H (fun _=>False) γ H [] w:=⟨Keeps.refl _ _,HLe.refl _,HNew.refl _ _ _,hok,fun i e h=>by simp[look]at h,fun i e h=>by simp[look]at h,fun i e h=>by simp[look]at h,fun i e j e' b h=>by simp[look]at h⟩
  exact(h w hΛ).mono fun e w' ⟨he,hk⟩=>⟨V,H,he,.d _ _ (.v V h1),hm.quiet hk⟩
theorem iU {w w':World}(h:Below w.heap.size w w'):Keeps w (fun _=>False) w':=⟨h.os,h.tape,h.output,h.size,fun k hk _=>h.block k hk⟩
theorem Ct.calls {Λ:Amb}{P:Program}{f:FuncId}{avs:List AV}{V:Value}(h:Ct Λ P f avs [] (fun r _=>r=.d (.v V)))(w:World)(hΛ:Λ.p w)(hg:Λ.g≤w.heap.size)(vs:List Value)(hl:vs.length=avs.length)
 (hr:∀(j:Nat)(a:AV)(u:Value),avs[j]?=some a→vs[j]?=some u→Rep (fun _=>⟨0,0,fun _=>False⟩) (eV w) a u):
 Calls P f vs.toArray w fun e w'=>e=.returned V∧Below w.heap.size w w':=by
 have:=h none (fun _=>⟨0,0,fun _=>False⟩) (eV w) w vs ⟨hΛ,hg,by rw[ji];exact fun b h=>h.elim⟩ (by
  rw[ji]
  exact⟨Keeps.refl _ _,HLe.refl _,HNew.refl _ _ _,zR w,fun i e h=>by simp[look]at h,fun i e h=>by simp[look]at h,fun i e h=>by simp[look]at h,fun i e j e' b h=>by simp[look]at h⟩) hl hr
 refine(callsIn_wide.1 this).mono fun e w' ⟨v,r,σ,γ',H',he,hq,hrep,_,_,hm⟩=>?_
 subst hq
 rw[ji]at hm
 cases hrep with
 |d _ _ hd=>cases hd with
  |v _ _=>exact⟨he,hm.keep.below fun _=>id⟩
def DM (P:Program)(g:Nat)(wz:List (String×IntKind×List Int))(hg:∀n,n∈wz→∀i,P.globalNamed n.1=some i→i<g):Amb:=
 ⟨fun w=>∀n,n∈wz→Lib.TabIs P w n.1 n.2.1 n.2.2,g,fun{w w'} h hk n hn=>by
  have h:=h n hn
  obtain⟨i,hi,hm⟩:=Option.bind_eq_some_iff.1 (show World.var? P w n.1=some _ from h)
  show World.var? P w' n.1=some _
  unfold World.var?
  rw[hi]
  simp only[Option.bind_some]
  rw[hk i (hg n hn i hi)];exact hm⟩
end Go.Gv
end
section
namespace Go.Gv
open Go.RowKit Go.ChangeShapes Go.WideShapes
section
variable {H:Type} {enc:TypeId×Value→H} {P:Program} {W:World}
def kf (enc:TypeId×Value→H)(P:Program)(W:World)(e:TypeId)(G:List D→Prop):Prop:=
 ∀(n:Nat)(cs:List Value)(x:DataW H×List MemPlace),DataW.trod enc P W 0 (fun _=>true) true n e cs=some x→
  ∃ds:List D,cs.length=ds.length∧(∀(j:Nat)(a:D)(u:Value),ds[j]?=some a→cs[j]?=some u→RepD (eV W) a u)∧G ds
theorem ie {e:TypeId}{G:List D→Prop}(h:∀n cs x,DataW.trod enc P W 0 (fun _=>true) true n e cs=some x→∃v a,cs=[v]∧RepD (eV W) a v∧G [a]):kf enc P W e G:=by
 intro n cs x hx
 obtain⟨v,a,rfl,hr,hg⟩:=h n cs x hx
 refine⟨[a],rfl,fun j b u h1 h2=>?_,hg⟩
 cases j with
 |zero=>simp at h1 h2;subst h1;subst h2;exact hr
 |succ j=>simp at h1
theorem ug {e:TypeId}{k:IntKind}(he:P.underlying e=some (.int k)):kf enc P W e (fun ds=>∃n,ds=[.v (.int k n)]∧(Lit.int k n).wf=true):=
 ie fun _ _ _ hx=>let⟨m,h1,_,h2⟩:=DataW.trod_int he hx;⟨_,.v (.int k m),h1,.v _ rfl,m,rfl,h2⟩
theorem sb {e:TypeId}(he:P.underlying e=some .bool):kf enc P W e (fun ds=>∃b,ds=[.v (.bool b)]):=
 ie fun _ _ _ hx=>let⟨b,h1,_⟩:=DataW.trod_bool he hx;⟨_,.v (.bool b),h1,.v _ rfl,b,rfl⟩
theorem uf {e:TypeId}(he:P.underlying e=some .string):kf enc P W e (fun ds=>∃s,ds=[.v (.string s)]∧s.size≤maxLen):=
 ie fun _ _ _ hx=>let⟨s,h1,_,h2⟩:=DataW.trod_string he hx;⟨_,.v (.string s),h1,.v _ rfl,s,rfl,h2⟩
theorem sX {α:Type}{n:Nat}{p:Nat→α→Prop}(h:∀i,i<n→∃x,p i x):∃l:List α,l.length=n∧∀i a,l[i]?=some a→p i a:=by
 induction n with
 |zero=>exact⟨[],rfl,fun i a h=>by simp at h⟩
 |succ n ih=>
  obtain⟨l,hl,hp⟩:=ih fun i hi=>h i (by omega)
  obtain⟨x,hx⟩:=h n (by omega)
  refine⟨l++[x],by simp[hl],fun i a hi=>?_⟩
  by_cases hin:i<l.length
  ·rw[List.getElem?_append_left hin]at hi;exact hp i a hi
  ·rw[List.getElem?_append_right (by omega)]at hi
   have:i-l.length=0:=by
    rcases Nat.eq_zero_or_pos (i-l.length)with h0|h0
    ·exact h0
    ·rw[List.getElem?_eq_none (by simp;omega)]at hi;cases hi
   rw[this]at hi
   simp at hi;subst hi
   rwa [show i=n by omega]
theorem pm (a:Addr):a.add 0=a:=by simp[Addr.add]
theorem cells_get {b0:Nat}{a:Addr}{k:Nat}{cs:List Value}(h:W.cells? b0 a k=some cs):cs.length=k∧∀j v,cs[j]?=some v→W.cell? (a.add j)=some v:=by
 obtain⟨_,hl,hc⟩:=World.cells?_some h
 refine⟨hl,fun j v hj=>?_⟩
 have hjk:j<k:=by rw[←hl];exact(List.getElem?_eq_some_iff.1 hj).1
 rw[hc j hjk,hj]
theorem xA {a:Addr}{v:Value}(h:W.cell? a=some v):a.spot=none:=by
 unfold World.cell? at h
 split at h
 ·split at h
  ·cases h
  ·rename_i hs;simpa using hs
 ·cases h
theorem qI {t e:TypeId}{G:List D→Prop}{k:Nat}(ht:P.underlying t=some (.slice e))(hc:P.cellsOf e=k)(hk:0<k)(el:kf enc P W e G):
 kf enc P W t (fun ds=>∃xs,ds=[.sl k xs]∧∀cs,cs∈xs→G cs):=by
 refine ie fun n cs x hx=>?_
 rcases Go.Deep.open_slice ht hx with⟨rfl,_⟩|⟨a,len,cap,m,n',Df,Pl,rfl,_,hl,hm,hmm,_,hel⟩
 ·exact⟨_,.sl k [],rfl,.sl k [] none 0 0 0 (fun _ _=>.nilIface) (fun _ h=>by simp at h) (Nat.le_refl _) (by simp) (by simp) (fun j i h=>by simp at h) (fun j i cs a h=>by simp at h),[],rfl,fun _ h=>by simp at h⟩
 ·simp only[if_true]at hmm
  subst hmm
  rw[hc]at hel
  have spot:0<len→a=⟨a.block,a.off,none⟩:=by
   intro h0
   obtain⟨cs',h1,h2⟩:=hel 0 (by omega)
   obtain⟨hlen,hcell⟩:=cells_get h1
   have:∃v,cs'[0]?=some v:=by
    have:0<cs'.length:=by omega
    exact⟨cs'[0],by simp[this]⟩
   obtain⟨v,hv⟩:=this
   have:=xA (hcell 0 v hv)
   simp[pm]at this
   cases a;simp_all
  obtain⟨xs,hxl,hxp⟩:=sX (α:=List D×List Value) (n:=len) (p:=fun i y=>y.1.length=k∧y.2.length=k∧(∀j v,y.2[j]?=some v→W.cell? ((a.add (i*k)).add j)=some v)∧
   (∀(j:Nat)(a:D)(u:Value),y.1[j]?=some a→y.2[j]?=some u→RepD (eV W) a u)∧G y.1) fun i hi=>by
   obtain⟨cs',h1,h2⟩:=hel i (by omega)
   obtain⟨hlen,hcell⟩:=cells_get h1
   obtain⟨ds,hd,hr,hg⟩:=el n' cs' _ h2
   exact⟨(ds,cs'),by simp;omega,hlen,hcell,hr,hg⟩
  have get:∀(j:Nat)(ds:List D),(xs.map (·.1))[j]?=some ds→∃y,xs[j]?=some y∧y.1=ds:=by
   intro j ds h
   simp only[List.getElem?_map,Option.map_eq_some_iff]at h
   exact h
  have hxl':(xs.map (·.1)).length=len:=by simp[hxl]
  refine⟨_,.sl k (xs.map (·.1)),rfl,?_,_,rfl,fun ds hds=>?_⟩
  ·have key:=RepD.sl (H:=eV W) k (xs.map (·.1)) (some a) m a.block a.off (fun j i=>((xs.getD j ([],[])).2.getD i .nilIface)) (fun cs hcs=>by
    obtain⟨j,hj⟩:=List.getElem?_of_mem hcs
    obtain⟨y,hy,rfl⟩:=get j cs hj
    exact(hxp j y hy).1) (by rw[hxl'];exact hl) (by rw[hxl'];have:maxLen=9223372036854775807:=rfl;omega) (fun h=>by rw[hxl']at h;rw[←spot h]) (fun j i hj hi=>by
    rw[hxl']at hj
    have hjx:j<xs.length:=by omega
    obtain⟨_,q2,q3,_⟩:=hxp j xs[j] (by simp[hjx])
    have hi':i<(xs[j]).2.length:=by omega
    have:=q3 i (xs[j]).2[i] (by simp[hi'])
    simp only[eV,List.getD,hjx,List.getElem?_eq_getElem,Option.getD_some,hi']
    rw[←this]
    congr 1
    have hs:=spot (by omega)
    rw[Go.Deep.add_add]
    unfold Addr.add
    split
    ·rename_i h0
     have e1:j*k=0:=by omega
     have e2:i=0:=by omega
     rw[e1,e2];exact hs.symm
    ·rw[Nat.add_assoc]) (fun j i ds d hj hd=>by
    obtain⟨y,hy,rfl⟩:=get j ds hj
    obtain⟨q1,q2,_,q4,_⟩:=hxp j y hy
    have hi':i<y.2.length:=by have:=(List.getElem?_eq_some_iff.1 hd).1;omega
    have:(xs.getD j ([],[]))=y:=by simp[List.getD,hy]
    rw[this]
    exact q4 i d _ hd (by simp[List.getD,hi']))
   rw[hxl']at key
   exact key
  ·obtain⟨j,hj⟩:=List.getElem?_of_mem hds
   obtain⟨y,hy,rfl⟩:=get j ds hj
   exact(hxp j y hy).2.2.2.2
inductive Ty where
 |int (k:IntKind)
 |bool
 |str
 |st (fs:List Ty)
 |sl (e:Ty)
def cells:Ty→Nat
 |.st fs=>go fs
 |_=>1
where go:List Ty→Nat
 |[]=>0
 |f::r=>cells f+go r
def Ty.ok:Ty→List D→Prop
 |.int k,ds=>∃n,ds=[.v (.int k n)]∧(Lit.int k n).wf=true
 |.bool,ds=>∃b,ds=[.v (.bool b)]
 |.str,ds=>∃l:List UInt8,ds=[.v (.string ⟨⟨l⟩⟩)]∧l.length≤maxLen
 |.st fs,ds=>okFs fs ds
 |.sl e,ds=>∃xs,ds=[.sl (cells e) xs]∧∀cs,cs∈xs→e.ok cs
where okFs:List Ty→List D→Prop
 |[],ds=>ds=[]
 |f::r,ds=>∃d1 d2,ds=d1++d2∧f.ok d1∧okFs r d2
def Ty.isT (P:Program):Ty→TypeId→Bool
 |.int k,t=>(match P.underlying t with|some (.int k')=>kEq k k'|_=>false)&&Nat.beq (P.cellsOf t) 1
 |.bool,t=>(match P.underlying t with|some .bool=>true|_=>false)&&Nat.beq (P.cellsOf t) 1
 |.str,t=>(match P.underlying t with|some .string=>true|_=>false)&&Nat.beq (P.cellsOf t) 1
 |.st fs,t=>(match P.underlying t with|some (.struct gs)=>isFs P fs gs.toList 0&&Nat.beq (P.cellsOf t) (cells (.st fs))|_=>false)
 |.sl e,t=>(match P.underlying t with|some (.slice u)=>e.isT P u&&Nat.blt 0 (cells e)|_=>false)&&Nat.beq (P.cellsOf t) 1
where isFs (P:Program):List Ty→List Field→Nat→Bool
 |[],[],_=>true
 |f::r,g::s,off=>Nat.beq g.offset off&&f.isT P g.type&&isFs P r s (off+cells f)
 |_,_,_=>false
theorem pM {ty:Ty}{t:TypeId}(h:ty.isT P t=true):P.cellsOf t=cells ty:=by
 cases ty with
 |int k=>simp only[Ty.isT,Bool.and_eq_true,Nat.beq_eq]at h;exact h.2
 |bool=>simp only[Ty.isT,Bool.and_eq_true,Nat.beq_eq]at h;exact h.2
 |str=>simp only[Ty.isT,Bool.and_eq_true,Nat.beq_eq]at h;exact h.2
 |sl e=>simp only[Ty.isT,Bool.and_eq_true,Nat.beq_eq]at h;exact h.2
 |st fs=>
  simp only[Ty.isT]at h
  split at h
  ·simp only[Bool.and_eq_true,Nat.beq_eq]at h;exact h.2
  ·cases h
theorem zV (s:ByteArray):s.data.toList.length=s.size:=rfl
mutual
theorem ue:∀(ty:Ty)(t:TypeId),ty.isT P t=true→kf enc P W t ty.ok
 |.int k,t,hty=>by
  simp only[Ty.isT,Bool.and_eq_true]at hty
  obtain⟨h1,_⟩:=hty
  split at h1
  ·next k' hu=>
   obtain rfl:=n0 h1
   exact ug hu
  ·cases h1
 |.bool,t,hty=>by
  simp only[Ty.isT,Bool.and_eq_true]at hty
  obtain⟨h1,_⟩:=hty
  split at h1
  ·next hu=>exact sb hu
  ·cases h1
 |.str,t,hty=>by
  simp only[Ty.isT,Bool.and_eq_true]at hty
  obtain⟨h1,_⟩:=hty
  split at h1
  ·next hu=>
   intro n cs x hx
   obtain⟨ds,e1,e2,s,rfl,hs⟩:=uf hu n cs x hx
   exact⟨_,e1,e2,s.data.toList,rfl,by rw[zV];exact hs⟩
  ·cases h1
 |.sl e,t,hty=>by
  simp only[Ty.isT,Bool.and_eq_true]at hty
  obtain⟨h1,_⟩:=hty
  split at h1
  ·next u hu=>
   simp only[Bool.and_eq_true,Nat.blt_eq]at h1
   exact qI hu (pM h1.1) h1.2 (ue e u h1.1)
  ·cases h1
 |.st fs,t,hty=>by
  simp only[Ty.isT]at hty
  split at hty
  ·next gs hu=>
   simp only[Bool.and_eq_true,Nat.beq_eq]at hty
   intro n cs x hx
   obtain⟨xs,m,_,_,hl,hsz,hfld⟩:=DataW.trod_struct hu hx
   have hlen:cs.length=cells (.st fs):=by rw[hl];exact hty.2
   obtain⟨ds,e1,e2,e3⟩:=yT fs gs.toList 0 hty.1 m cs (by rw[hlen];simp[cells]) (fun k g hg=>by
    have hg':gs[k]?=some g:=by simpa using hg
    have hk:k<xs.length:=by
     have:=(Array.getElem?_eq_some_iff.1 hg').1
     omega
    have:=hfld k g hg'
    exact⟨xs[k],this.trans (by simp[hk])⟩)
   refine⟨ds,by rw[hlen,e1];rfl,fun j a u ha hu=>e2 j a u ha (by simpa using hu),e3⟩
  ·cases hty
theorem yT:∀(fs:List Ty)(gs:List Field)(off:Nat),Ty.isT.isFs P fs gs off=true→∀(n:Nat)(cs:List Value),off+cells.go fs≤cs.length→
 (∀(k:Nat)(g:Field),gs[k]?=some g→∃y,DataW.trod enc P W 0 (fun _=>true) true n g.type ((cs.drop g.offset).take (P.cellsOf g.type))=some y)→
 ∃ds:List D,ds.length=cells.go fs∧(∀(j:Nat)(a:D)(u:Value),ds[j]?=some a→cs[off+j]?=some u→RepD (eV W) a u)∧Ty.ok.okFs fs ds
 |[],[],off,_,n,cs,_,_=>⟨[],rfl,fun j a u h=>by simp at h,rfl⟩
 |f::r,g::s,off,hty,n,cs,hle,hf=>by
  simp only[Ty.isT.isFs,Bool.and_eq_true,Nat.beq_eq]at hty
  obtain⟨⟨h1,h2⟩,h3⟩:=hty
  simp only[cells.go]at hle
  obtain⟨y,hy⟩:=hf 0 g rfl
  obtain⟨d1,e1,e2,e3⟩:=ue f g.type h2 n _ _ hy
  obtain⟨d2,e4,e5,e6⟩:=yT r s (off+cells f) h3 n cs (by omega) (fun k g' hg=>hf (k+1) g' (by simpa using hg))
  rw[h1,pM h2]at e1 e2
  have hl1:d1.length=cells f:=by
   rw[←e1,List.length_take,List.length_drop];omega
  refine⟨d1++d2,by simp[cells.go,hl1,e4],fun j a u ha hu=>?_,d1,d2,rfl,e3,e6⟩
  by_cases hj:j<d1.length
  ·rw[List.getElem?_append_left hj]at ha
   refine e2 j a u ha ?_
   rw[List.getElem?_take,if_pos (by omega),List.getElem?_drop];exact hu
  ·rw[List.getElem?_append_right (by omega)]at ha
   refine e5 (j-d1.length) a u ha ?_
   rw[hl1,show off+cells f+(j-cells f)=off+j by omega];exact hu
 |[],_::_,off,hty,_,_,_,_=>by simp[Ty.isT.isFs]at hty
 |_::_,[],off,hty,_,_,_,_=>by simp[Ty.isT.isFs]at hty
end
def vF:List D→AV
 |d::_=>.d d
 |[]=>.junk
def Ty.av:Ty→List D→AV
 |.st _,ds=>.agg (ds.map .d)
 |_,ds=>vF ds
theorem mO {b0:Nat}{t:TypeId}(ty:Ty){v:Value}{d:DataW H}{ps:List MemPlace}(hty:ty.isT P t=true)(hok:Value.okWide P W .any b0 t v)(h:DataW.Trod enc P W 0 (fun _=>true) true t v d ps):
 ∃ds,ty.ok ds∧∀γ,Rep γ (eV W) (ty.av ds) v:=by
 obtain⟨n,hn⟩:=h
 obtain⟨ds,hl,hr,hG⟩:=ue ty t hty n _ _ hn
 refine⟨ds,hG,fun γ=>?_⟩
 have single:v.cells.toList=[v]→Ty.av ty ds=vF ds→Rep γ (eV W) (ty.av ds) v:=fun hc he=>by
  rw[he]
  rw[hc]at hl hr
  match ds,hl with
  |[a],_=>exact .d _ _ (hr 0 a v rfl rfl)
 cases ty with
 |st fs=>
  simp only[Ty.isT]at hty
  split at hty
  ·next gs hu=>
   obtain⟨cs,rfl,_⟩:=okWide_struct hu hok
   have:=lz (γ:=γ) (H:=eV W) (cs:=ds) (us:=cs.toList) (by simpa[Value.cells]using hl) (fun j a u ha hu=>hr j a u ha (by simpa[Value.cells]using hu))
   simpa[Ty.av]using this
  ·cases hty
 |int k=>
  simp only[Ty.isT,Bool.and_eq_true]at hty
  obtain⟨h1,_⟩:=hty
  split at h1
  ·next hu=>obtain⟨n,rfl⟩:=okWide_int hu hok;exact single rfl rfl
  ·cases h1
 |bool=>
  simp only[Ty.isT,Bool.and_eq_true]at hty
  obtain⟨h1,_⟩:=hty
  split at h1
  ·next hu=>obtain⟨n,rfl⟩:=okWide_bool hu hok;exact single rfl rfl
  ·cases h1
 |str=>
  simp only[Ty.isT,Bool.and_eq_true]at hty
  obtain⟨h1,_⟩:=hty
  split at h1
  ·next hu=>obtain⟨n,rfl⟩:=okWide_string hu hok;exact single rfl rfl
  ·cases h1
 |sl e=>
  simp only[Ty.isT,Bool.and_eq_true]at hty
  obtain⟨h1,_⟩:=hty
  split at h1
  ·next hu=>obtain⟨a,l,c,rfl⟩:=okWide_slice hu hok;exact single rfl rfl
  ·cases h1
theorem yB {α:Type}{p:List D→Prop}{enc':α→List D}{q:α→Prop}(h:∀cs,p cs→∃a,cs=enc' a∧q a):∀{xs:List (List D)},(∀cs,cs∈xs→p cs)→∃l:List α,xs=l.map enc'∧∀a,a∈l→q a
 |[],_=>⟨[],rfl,fun _ h=>by simp at h⟩
 |c::r,hx=>by
  obtain⟨a,rfl,ha⟩:=h c (hx c (by simp))
  obtain⟨l,rfl,hl⟩:=yB h (xs:=r) fun cs hcs=>hx cs (by simp[hcs])
  exact⟨a::l,rfl,fun b hb=>by rcases List.mem_cons.1 hb with rfl|hb;exact ha;exact hl b hb⟩
end
theorem z0 {γ:Ids}{H:HF}:∀(j:Nat)(a:AV)(u:Value),([]:List AV)[j]?=some a→([]:List Value)[j]?=some u→Rep γ H a u:=fun j a u h=>by simp at h
theorem jF {γ:Ids}{H:HF}{avs:List AV}{vs:List Value}{a0:AV}{u0:Value}(h0:Rep γ H a0 u0)(h:∀(j:Nat)(a:AV)(u:Value),avs[j]?=some a→vs[j]?=some u→Rep γ H a u):
 ∀(j:Nat)(a:AV)(u:Value),(a0::avs)[j]?=some a→(u0::vs)[j]?=some u→Rep γ H a u:=by
 intro j a u h1 h2
 cases j with
 |zero=>simp at h1 h2;subst h1;subst h2;exact h0
 |succ j=>exact h j a u (by simpa using h1) (by simpa using h2)
end Go.Gv
end
section
namespace Go.Gv
open Go.RowKit
section
variable {X:Cx} {d:Option Nat} {ty:TypeId} {pos:String} {aft:Array Edge} {g:Option (Nat×Bool)} {t:T} {σ:Sg}
theorem AA {st e:TypeId}{x:Operand}{lo hi:Option Operand}{n k:Nat}{cs:List D}{l h:Int}(hx:ge t x=some (.d (.ptr cs)))(hu:X.P.underlying st=some (.array n e))(hs:fu X.P e=some k)
 (hl:loV t lo=some l)(hh:hiV t n hi=some h)(h0:0≤l)(h1:l≤h)(h2:h≤(n:Int))(hc:cs.length=n*k)(hn:n≤9223372036854775807){xs:List (List D)}(hv:((ir k n cs).take h.toNat).drop l.toNat=xs):
 QJ X ⟨d,.slice st x lo hi none,ty,pos,aft,g⟩ t σ (.d (.sl k xs)):=by
 subst hv
 refine QJ.value (by simp) (fun γ H a w so sm=>?_)
 obtain⟨b,o,us,hq,hcc,hr⟩:=gG (eS (so x (by simp[Op.operands]) _ hx))
 have hb:=fJ (P:=X.P) (w:=w) (γ:=γ) (H:=H) (a:=a) (isS:=false) hl hh h0 h1 h2 (Nat.le_refl _) (fun y hy v hv=>so y (by
  rcases hy with rfl|rfl<;>simp[Op.operands]) v hv)
 rw[lU]
 obtain⟨c1,c2⟩:=p7 (k:=k) (n:=n) (ds:=cs) hc
 have hsl:RepD H (.sl k (fF k n cs)) (.slice (some ⟨b,o,none⟩) (fF k n cs).length n):=by
  refine .sl k _ _ n b o (fun j i=>us (j*k+i)) c2 (by omega) (by omega) (fun _=>rfl) (fun j i hj hi=>?_) (fun j i ds d hj hd=>?_)
  ·rw[c1]at hj
   rw[Nat.add_assoc]
   refine hcc _ ?_
   rw[hc]
   calc j*k+i<j*k+k:=by omega
    _=(j+1)*k:=by rw[Nat.add_mul];omega
    _≤n*k:=Nat.mul_le_mul_right _ (by omega)
  ·obtain⟨_,_,hx⟩:=lT hc hj hd
   exact hr _ d hx
 have hcut:=hsl.cut (l:=l.toNat) (h:=h.toNat) (c':=n) (by omega) (by rw[c1];omega) (by omega) (Nat.le_refl _)
 refine⟨_,?_,.d _ _ hcut⟩
 simp only[execOp,hq,Instr.sliceAt,Instr.sureAddr,Sem.run_bind,run_underlying hu,Result.andThen_ok,hb,aK hs,Sem.run_pure,Option.map_none]
 congr 3
 split<;>rfl
end
def eqT (P:Program):Nat→TypeId→List Value→List Value→Option Bool
 |0,_,_,_=>none
 |n+1,t,xs,ys=>match P.underlying t with
  |some (.struct fs)=>fs.toList.foldr (fun f r=>match eqT P n f.type ((xs.drop f.offset).take (P.cellsOf f.type)) ((ys.drop f.offset).take (P.cellsOf f.type)),r with
   |some b,some r=>some (b&&r)
   |_,_=>none) (some true)
  |some (.int _)=>match xs,ys with
   |[.int k a],[.int k' b]=>match kEq k k' with
    |true=>some (decide (a=b))
    |false=>none
   |_,_=>none
  |some .bool=>match xs,ys with
   |[.bool a],[.bool b]=>some (a==b)
   |_,_=>none
  |some .string=>match xs,ys with
   |[.string a],[.string b]=>some (a.toList==b.toList)
   |_,_=>none
  |_=>none
def j7 (P:Program):Nat→TypeId→Bool
 |0,_=>false
 |n+1,t=>match P.underlying t with
  |some (.struct fs)=>!P.stoodInHeld t&&fs.toList.all fun f=>f.name != "_"&&(P.info? f.type).isSome&&j7 P n f.type&&(match P.underlying f.type with|some (.struct _)=>true|some (.array ..)=>false|_=>Nat.beq (P.cellsOf f.type) 1)
  |some (.array ..)=>false
  |_=>true
def pu (P:Program)(t:TypeId)(xs:List Value):Value:=match P.underlying t with
 |some (.struct _)=>.agg xs.toArray
 |_=>xs.headD undef
def ET:TypeDesc→Bool
 |.struct _=>true
 |.array _ _=>true
 |_=>false
theorem um {P:Program}{e:TypeId}{d:TypeDesc}(h:P.underlying e=some d)(hd:ET d=false)(w:World):(isAgg e).run P w=.ok false w:=by
 cases d<;>first|(exact fB h rfl w)|(cases hd)
theorem zD {P:Program}{n:Nat}{t:TypeId}{xs ys:List Value}{r:Bool}(he:eqT P (n+1) t xs ys=some r):
 (∃fs,P.underlying t=some (.struct fs))∨((∃x,xs=[x])∧(∃y,ys=[y])∧∃d,P.underlying t=some d∧ET d=false):=by
 simp only[eqT]at he
 cases hu:P.underlying t with
 |none=>rw[hu]at he;simp at he
 |some d=>
  rw[hu]at he
  cases d with
  |struct fs=>exact .inl ⟨fs,rfl⟩
  |int k=>right;simp only at he;split at he;exact⟨⟨_,rfl⟩,⟨_,rfl⟩,_,rfl,rfl⟩;cases he
  |bool=>right;simp only at he;split at he;exact⟨⟨_,rfl⟩,⟨_,rfl⟩,_,rfl,rfl⟩;cases he
  |string=>right;simp only at he;split at he;exact⟨⟨_,rfl⟩,⟨_,rfl⟩,_,rfl,rfl⟩;cases he
  |_=>simp at he
theorem r9 {P:Program}{t:TypeId}{off:Nat}{xs:List Value}{w:World}(hi:(P.info? t).isSome=true)(hc:(match P.underlying t with|some (.struct _)=>true|some (.array ..)=>false|_=>Nat.beq (P.cellsOf t) 1)=true)
 (he:(∃fs,P.underlying t=some (.struct fs))∨((∃x,(xs.drop off).take (P.cellsOf t)=[x])∧∃d,P.underlying t=some d∧ET d=false)):
 (part t xs.toArray off).run P w=.ok (pu P t ((xs.drop off).take (P.cellsOf t))) w:=by
 unfold part pu
 rcases he with⟨fs,hu⟩|⟨⟨x,hx⟩,d,hu,hd⟩
 ·have ha:(isAgg t).run P w=.ok true w:=by simp[isAgg,run_underlying hu]
  rw[hu]
  simp only[Sem.run_bind,ha,Result.andThen_ok,if_true,ku hi,Sem.run_pure]
  congr 2
  apply Array.toList_inj.1
  simp
 ·have ha:=um hu hd w
  rw[hu]at hc
  have hk:P.cellsOf t=1:=Nat.eq_of_beq_eq_true (by cases d<;>first|exact hc|cases hd)
  rw[hx]
  have hv:xs[off]?=some x:=by
   have:=congrArg (fun l=>l[0]?) hx
   rw[hk]at this
   simpa using this
  have:(match P.underlying t with|some (.struct _)=>Value.agg ([x]:List Value).toArray|_=>([x]:List Value).headD undef)=x:=by rw[hu];cases d<;>first|rfl|cases hd
  rw[this]
  simp[ha,hv]
theorem vI {P:Program}{w:World}:∀(n d:Nat)(t:TypeId)(xs ys:List Value)(r:Bool),j7 P n t=true→eqT P n t xs ys=some r→(Op.equalIn (d+n) t (pu P t xs) (pu P t ys)).run P w=.ok r w
 |0,_,_,_,_,_,_,h=>by simp[eqT]at h
 |n+1,d,t,xs,ys,r,ho,h=>by
  simp only[eqT]at h
  cases hu:P.underlying t with
  |none=>rw[hu]at h;simp at h
  |some de=>
   rw[hu]at h
   unfold pu
   rw[hu]
   cases de with
   |struct fs=>
    simp only at h ⊢
    simp only[j7,hu,Bool.and_eq_true,Bool.not_eq_true']at ho
    have hfs:P.fieldsOf t=fs:=by simp[Program.fieldsOf,hu]
    have h3:=run_equalIn_struct (P:=P) w (d+n) t xs.toArray ys.toArray (by rw[hfs];exact hu) ho.1
    rw[←Nat.add_assoc,h3,hfs]
    have key:∀(l:List Field)(r:Bool),(l.all fun f=>f.name != "_"&&(P.info? f.type).isSome&&j7 P n f.type&&(match P.underlying f.type with|some (.struct _)=>true|some (.array ..)=>false|_=>Nat.beq (P.cellsOf f.type) 1))=true→
     l.foldr (fun f r=>match eqT P n f.type ((xs.drop f.offset).take (P.cellsOf f.type)) ((ys.drop f.offset).take (P.cellsOf f.type)),r with
      |some b,some r=>some (b&&r)
      |_,_=>none) (some true)=some r→(Op.eqFields (d+n) xs.toArray ys.toArray l).run P w=.ok r w:=by
     intro l
     induction l with
     |nil=>intro r _ h;simp only[List.foldr_nil,Option.some.injEq]at h;subst h;simp[Op.eqFields]
     |cons f l ih=>
      intro r ha h
      simp only[List.all_cons,Bool.and_eq_true]at ha
      obtain⟨⟨⟨⟨a1,a2⟩,a3⟩,a4⟩,a5⟩:=ha
      simp only[List.foldr_cons]at h
      split at h
      ·next b r' hb hr=>
       simp only[Option.some.injEq]at h
       subst h
       cases n with
       |zero=>simp[eqT]at hb
       |succ n=>
        have q:=zD hb
        have p1:=r9 (w:=w) (xs:=xs) a2 a4 (q.imp (fun h=>h) fun h=>⟨h.1,h.2.2⟩)
        have p2:=r9 (w:=w) (xs:=ys) a2 a4 (q.imp (fun h=>h) fun h=>⟨h.2.1,h.2.2⟩)
        have e1:=vI (w:=w) (n+1) d f.type _ _ b a3 hb
        have i1:=ih r' a5 hr
        have hn:f.name≠ "_":=by simpa using a1
        simp only[Op.eqFields,hn,ne_eq,not_false_eq_true,if_true,Sem.run_bind,p1,p2,Result.andThen_ok,e1]
        cases b with
        |true=>simpa using i1
        |false=>simp
      ·cases h
    exact key _ _ ho.2 h
   |int k=>
    simp only at h ⊢
    split at h
    ·next k1 a k2 b=>
     split at h
     ·next hk=>
      obtain rfl:=n0 hk
      simp only[Option.some.injEq]at h;subst h
      show(Op.equalIn (d+n+1) t (.int k1 a) (.int k1 b)).run P w=_
      rw[run_equalIn_int w _ t k1 k a b hu];rfl
     ·cases h
    ·cases h
   |bool=>
    simp only at h ⊢
    split at h
    ·next a b=>
     simp only[Option.some.injEq]at h;subst h
     show(Op.equalIn (d+n+1) t (.bool a) (.bool b)).run P w=_
     rw[run_equalIn_bool' w _ t a b hu]
    ·cases h
   |string=>
    simp only at h ⊢
    split at h
    ·next a b=>
     simp only[Option.some.injEq]at h;subst h
     show(Op.equalIn (d+n+1) t (.string a) (.string b)).run P w=_
     rw[run_equalIn_string w _ t a b hu]
    ·cases h
   |_=>simp at h
section
variable {X:Cx} {d:Option Nat} {ty:TypeId} {pos:String} {aft:Array Edge} {g:Option (Nat×Bool)} {t:T} {σ:Sg}
theorem vX {γ:Ids}{H:HF}{P:Program}{tt:TypeId}{u v:Value}{asz bs:List AV}{xs ys:List Value}{fs:Array Field}{r:Bool}(n:Nat){w:World}(h1:Rep γ H (.agg asz) u)(h2:Rep γ H (.agg bs) v)(hxs:dH asz=some xs)(hys:dH bs=some ys)
 (hu:P.underlying tt=some (.struct fs))(ho:j7 P n tt=true)(hn:n≤10000)(hr:eqT P n tt xs ys=some r):
 u=.agg xs.toArray∧v=.agg ys.toArray∧(Op.equalIn 10000 tt (.agg xs.toArray) (.agg ys.toArray)).run P w=.ok r w:=by
 cases h1 with
 |agg _ us hl1 hr1=>
 cases h2 with
 |agg _ vs hl2 hr2=>
 have e1:=fq hxs hl1 hr1
 have e2:=fq hys hl2 hr2
 subst e1;subst e2
 have:=vI (w:=w) n (10000-n) tt us vs r ho hr
 rw[show 10000-n+n=10000 by omega]at this
 simp only[pu,hu]at this
 exact⟨rfl,rfl,this⟩
theorem O.eqT {tt yt:TypeId}{x y:Operand}{asz bs:List AV}{xs ys:List Value}{fs:Array Field}{r:Bool}(n:Nat)(hx:ge t x=some (.agg asz))(hy:ge t y=some (.agg bs))(hxs:dH asz=some xs)(hys:dH bs=some ys)
 (hu:X.P.underlying tt=some (.struct fs))(ho:j7 X.P n tt=true)(hg:X.P.eqGuardType X.P.depth tt=false)(hr:Gv.eqT X.P n tt xs ys=some r)(hn:n≤10000:=by decide):
 QJ X ⟨d,.binOp .eql tt x y yt,ty,pos,aft,g⟩ t σ (.d (.v (.bool r))):=
 QJ.value (by simp) (fun γ H a w so sm=>by
  obtain⟨h1,h2,h3⟩:=vX (P:=X.P) n (w:=w) (so _ (by simp[Op.operands]) _ hx) (so _ (by simp[Op.operands]) _ hy) hxs hys hu ho hn hr
  refine⟨.bool r,?_,.d _ _ (.v _ rfl)⟩
  simp only[execOp,h1,h2,Sem.run_bind,run_eql_struct,run_eqGuard_agg w _ _ _ _ _ _ hg,Result.andThen_ok,h3,Sem.run_pure])
theorem we {tt yt:TypeId}{x y:Operand}{asz bs:List AV}{xs ys:List Value}{fs:Array Field}{r:Bool}(n:Nat)(hx:ge t x=some (.agg asz))(hy:ge t y=some (.agg bs))(hxs:dH asz=some xs)(hys:dH bs=some ys)
 (hu:X.P.underlying tt=some (.struct fs))(ho:j7 X.P n tt=true)(hg:X.P.eqGuardType X.P.depth tt=false)(hr:Gv.eqT X.P n tt xs ys=some r)(hn:n≤10000:=by decide):
 QJ X ⟨d,.binOp .neq tt x y yt,ty,pos,aft,g⟩ t σ (.d (.v (.bool (!r)))):=
 QJ.value (by simp) (fun γ H a w so sm=>by
  obtain⟨h1,h2,h3⟩:=vX (P:=X.P) n (w:=w) (so _ (by simp[Op.operands]) _ hx) (so _ (by simp[Op.operands]) _ hy) hxs hys hu ho hn hr
  refine⟨.bool (!r),?_,.d _ _ (.v _ rfl)⟩
  simp only[execOp,h1,h2,Sem.run_bind,run_neq_struct,run_eqGuard_agg w _ _ _ _ _ _ hg,Result.andThen_ok,h3,Sem.run_pure])
end
theorem Mem.start {w:World}{H:HF}(hok:HOk H w)(γ:Ids):Mem w H (fun _=>False) γ H [] w:=
 ⟨Keeps.refl _ _,HLe.refl _,HNew.refl _ _ _,hok,fun i e h=>by simp[look]at h,fun i e h=>by simp[look]at h,fun i e h=>by simp[look]at h,fun i e j e' b h=>by simp[look]at h⟩
theorem oN:∀(ds:List D),ir 1 ds.length ds=ds.map fun d=>[d]
 |[]=>rfl
 |d::r=>by
  have:=oN r
  simp only[List.length_cons,ir,List.map_cons]
  simpa using this
abbrev bD (b:UInt8):D:=.v (.int .u8 b.toNat)
theorem mB:∀(l:List UInt8),dM (l.map fun b=>[bD b])=some (l.map fun b=>(b.toNat:Int))
 |[]=>rfl
 |b::r=>by simp[dM,mB r]
theorem wD (l:List UInt8):cZ (l.map fun b=>(b.toNat:Int))=⟨⟨l⟩⟩:=by
 unfold cZ
 simp only[List.map_map]
 have:((fun n:Int=>UInt8.ofNat n.toNat)∘fun b:UInt8=>(b.toNat:Int))=id:=by funext b;simp
 rw[this,List.map_id]
theorem sU {α:Type}(f:α→D):∀(l:List α),fO (l.map fun a=>AV.d (f a))=some (l.map f)
 |[]=>rfl
 |a::r=>by simp[fO,dOf,sU f r]
end Go.Gv
end
section
namespace Go.Gv
open Go.RowKit
universe u
def fZ {α:Type u}(ws:List Nat):List (Nat×α)→List (Nat×α)
 |[]=>[]
 |(i,a)::t=>match sp i ws with
  |true=>fZ ws t
  |false=>(i,a)::fZ (i::ws) t
theorem lM {α:Type u}:∀{ws:List Nat}{t:List (Nat×α)}{i:Nat},sp i ws=true→look i (fZ ws t)=none
 |ws,[],i,_=>rfl
 |ws,(j,a)::t,i,h=>by
  simp only[fZ]
  split
  ·exact lM h
  ·next hj=>
   rw[ae]
   have:i≠j:=fun e=>by subst e;rw[h]at hj;cases hj
   rw[if_neg this]
   exact lM (by rw[pG];simp[h])
theorem kP {α:Type u}:∀(ws:List Nat)(t:List (Nat×α)),Wk (fZ ws t) t
 |ws,[],i,b,h=>by simp[fZ,look]at h
 |ws,(j,a)::t,i,b,h=>by
  simp only[fZ]at h
  rw[ae]
  split at h
  ·next hj=>
   have:i≠j:=fun e=>by
    subst e
    rw[lM hj]at h;cases h
   rw[if_neg this]
   exact kP ws t i b h
  ·rw[ae]at h
   split at h
   ·next e=>rw[if_pos e];exact h
   ·next e=>rw[if_neg e];exact kP (j::ws) t i b h
theorem Wk.app {α:Type u}{a b l:List (Nat×α)}(h:Wk a l)(k:Wk b l):Wk (a++b) l:=fun i x hi=>by
 rw[dB]at hi
 cases hx:look i a with
 |some y=>rw[hx,Option.some_or]at hi;rw[←hi];exact h i y hx
 |none=>rw[hx]at hi;simp only[Option.none_or]at hi;exact k i x hi
theorem ax {X:Cx}{c:Code}{t:T}{σ:Sg}{Q:Qt}{V:Type}(T0:V→T)(S0:V→Sg)(ks:List Nat)(μ:V→Nat)(I:V→Prop)(v0:V)(h0:I v0)(ht:Has (T0 v0) t)(hs:Has (S0 v0) σ)
 (round:∀v,I v→vc X c (T0 v++gP (dq c []) t) (S0 v++fZ ks σ) fun e t' σ'=>match e with
  |.normal=>∃v',I v'∧μ v'<μ v∧Has (T0 v') t'∧Has (gP (dq c []) t) t'∧Has (S0 v') σ'∧Has (fZ ks σ) σ'
  |e=>Q e t' σ'):WJ X (.loop c) t σ Q:=by
 refine WJ.loop (fun n t' σ'=>∃v,I v∧n=μ v∧Wk (T0 v++gP (dq c []) t) t'∧Wk (S0 v++fZ ks σ) σ') (μ v0) ⟨v0,h0,rfl,ht.wk.app (kO _ _),hs.wk.app (kP _ _)⟩ ?_
 rintro n t' σ' ⟨v,hv,rfl,ht',hs'⟩
 refine WJ.wk ht' hs' ((aq _ _ _ _ (round v hv)).mono fun e t'' σ'' q=>?_)
 cases e with
 |normal=>
  obtain⟨v',h1,h2,h3,h4,h5,h6⟩:=q
  exact⟨μ v',h2,v',h1,rfl,h3.wk.app h4.wk,h5.wk.app h6.wk⟩
 |exit id=>exact q
 |goto l=>exact q
 |ret=>exact q
 |panic ch=>exact q
 |outgrown=>exact q
end Go.Gv
end
section
namespace Go.Gv
open Go.RowKit
inductive FnIs:AV→FuncId→List AV→Prop where
 |fnp (f:FuncId) (cs:List AV):FnIs (.fnp f cs) f cs
 |fn (f:FuncId) (ds:List D):FnIs (.d (.fn f ds)) f (ds.map .d)
theorem FnIs.rep {a:AV}{f:FuncId}{caps:List AV}(h:FnIs a f caps){γ:Ids}{H:HF}{u:Value}(r:Rep γ H a u):
 ∃us:List Value,u=.func (.func f) #[] us.toArray∧us.length=caps.length∧∀(j:Nat)(a:AV)(u:Value),caps[j]?=some a→us[j]?=some u→Rep γ H a u:=by
 cases h with
 |fnp f cs=>cases r with
  |fnp _ _ us hl hr=>exact⟨us,rfl,hl,hr⟩
 |fn f ds=>cases eS r with
  |fn _ _ us hl hr=>exact⟨us,rfl,by simp[hl],fun j a u h1 h2=>by
   simp only[List.getElem?_map,Option.map_eq_some_iff]at h1
   obtain⟨x,hx,rfl⟩:=h1
   exact .d _ _ (hr j x u hx h2)⟩
theorem rU {γ:Ids}{H:HF}{as1 bs:List AV}{us vs:List Value}(hl:us.length=as1.length)(h1:∀(j:Nat)(a:AV)(u:Value),as1[j]?=some a→us[j]?=some u→Rep γ H a u)(h2:∀(j:Nat)(a:AV)(u:Value),bs[j]?=some a→vs[j]?=some u→Rep γ H a u):
 ∀(j:Nat)(a:AV)(u:Value),(as1++bs)[j]?=some a→(us++vs)[j]?=some u→Rep γ H a u:=fun j a u ha hu=>by
 by_cases hj:j<as1.length
 ·rw[List.getElem?_append_left hj]at ha
  rw[List.getElem?_append_left (by omega)]at hu
  exact h1 j a u ha hu
 ·rw[List.getElem?_append_right (by omega)]at ha
  rw[List.getElem?_append_right (by omega),hl]at hu
  exact h2 _ a u ha hu
section call
variable {X:Cx} {d:Option Nat} {ty:TypeId} {pos:String} {aft:Array Edge} {g:Option (Nat×Bool)} {t:T} {σ:Sg} {K:T→Sg→Prop}
theorem lV {f:FuncId}{x:Operand}{us:List Value}{args:Array Operand}{tys:Array TypeId}{w:World}{a:Act}(hx:a.eval x=.func (.func f) #[] us.toArray)(hok:fI X.P f):
 (execOp a.eval ⟨d,.call {callee:=.value x,args:=args,argTypes:=tys},ty,pos,aft,g⟩).run X.P w=.ok (.enter f (args.map a.eval++us.toArray)) w:=by
 have:=hok (args.map a.eval++us.toArray) w
 simpa[execOp,resolve,hx,Deferred.ofValue,invoke]using this
theorem OpJ.callT {f:FuncId}{x:Operand}{av:AV}{args:Array Operand}{tys:Array TypeId}{avs caps:List AV}{σL:Sg}{Q:AV→Sg→Prop}(hx:ge t x=some av)(hf:FnIs av f caps)(hc:Ct X.Λ X.P f (avs++caps) σL Q)(hok:fI X.P f)(hN:dOk d X.N=true)
 (ha:iE t args.toList=some avs)(hs:Wk σL σ)(k:∀r σ',Q r σ'→yo σ' σL t σ X.pin=true∧K (putT d r t) (σ'++al σL σ)):
 OpJ X ⟨d,.call {callee:=.value x,args:=args,argTypes:=tys},ty,pos,aft,g⟩ t σ K:=by
 intro γ H a w s next Q' hk
 obtain⟨us,hu,hul,hur⟩:=hf.rep (aT s.tmp hx)
 rw[aG (by simp),lV hu hok,Oper.uponIn_enter]
 refine⟨fun h=>by simp[Fr]at h,?_⟩
 have hal:(args.map a.eval).toList.length=avs.length:=by have:=congrArg List.length (bE ha);simpa using this
 have:=hc X.ro γ H w ((args.map a.eval).toList++us) (s.lamAt σL hs) (s.mem.wk hs).self (by simp only[List.length_append,hal,hul]) (rU hal (by
  have:=ga (γ:=γ) (H:=H) (a:=a) (fun x _ v hv=>aT s.tmp hv) (bE ha)
  simpa using this) hur)
 rw[show((args.map a.eval).toList++us).toArray=args.map a.eval++us.toArray from Array.toList_inj.1 (by simp)]at this
 refine this.mono ?_
 rintro e w' ⟨v,r,σ',γ',H',rfl,hq,hr,hag,hpin,hm⟩
 obtain⟨htk,hK⟩:=k r σ' hq
 have tk:∀j e,look j σ'=some e→(∃e,look j σL=some e∧e.var=true)∨am j t (al σL σ) X.pin=true:=fun j e hj=>by
  have:=List.all_eq_true.1 htk _ (cI hj)
  rcases Bool.or_eq_true_iff.1 this with h|h
  ·left
   unfold mR at h
   split at h
   ·next e hcs=>exact⟨e,hcs,h⟩
   ·cases h
  ·exact .inr h
 have same:∀j,(∀e,look j σ'=some e→am j t (al σL σ) X.pin=true→False)→γ j=γ' j:=fun j hj=>by
  cases hx:look j σ' with
  |none=>exact hag j hx
  |some e=>
   rcases tk j e hx with⟨e',h,hv⟩|h
   ·exact hpin j e' h hv
   ·exact(hj e hx h).elim
 refine hk γ' H' _ _ _ w' (s.step (σr:=al σL σ) hm (fun b hb=>qY hs hb) fR (fun i e hi=>?_) (fun i e hi=>⟨same i fun f _ hf=>?_,fun j hj=>same j fun f _ hf=>?_⟩) (fun i hi=>same i fun f _ hf=>?_) (fun i x hi j hj=>same j fun f _ hf=>?_) hN hr) hK
 ·cases hx:look i σ' with
  |none=>rfl
  |some f=>
   rcases tk i f hx with⟨e',h,hv⟩|h
   ·rw[be,h]at hi;cases hi
   ·exact absurd rfl (aS h hi).1
 ·exact(aS hf hi).1 rfl
 ·have:=(aS hf hi).2;rw[hj]at this;cases this
 ·exact gb hf hi rfl
 ·have:=dK hf hi;rw[hj]at this;cases this
theorem mF {x:Operand}{args:Array Operand}{tys:Array TypeId}{j:Nat}{ρ:Res}{st:ρ.S}{avs:List AV}(hP:ρ.P=X.P)(hΛ:ρ.Λ=X.Λ)(hx:ge t x=some (.d (.v ρ.fv)))(hj:look j σ=some (.res ρ st))(ha:iE t args.toList=some avs)(ho:avs.all AV.open=true)
 (hN:dOk d X.N=true)(hf:am j t (al [(j,.res ρ st)] σ) X.pin=true)(hp:ρ.pre st avs)(k:∀b st',ρ.step st avs b st'→K (putT d (.d (.v (.bool b))) t) ((j,.res ρ st')::al [(j,.res ρ st)] σ)):
 OpJ X ⟨d,.call {callee:=.value x,args:=args,argTypes:=tys},ty,pos,aft,g⟩ t σ K:=by
 intro γ H a w s next Q' hk
 have hfv:=aV (aT s.tmp hx)
 have hok:ρ.ok st (γ j).o H w:=s.mem.ent j _ hj
 have hal:(args.map a.eval).toList.length=avs.length:=by have:=congrArg List.length (bE ha);simpa using this
 have hre:=ga (γ:=γ) (H:=H) (a:=a) (fun x _ v hv=>aT s.tmp hv) (bE ha)
 have key:=ρ.run hp H w (γ j).o (args.map a.eval).toList (by rw[hΛ];exact s.lam.keep s.mem.keep fun b hb=>(s.mem.fresh j _ hj b hb).elim (fun h=>Nat.le_trans s.lam.2.1 h) (s.lam.2.2 b)) hok s.mem.hok (fun b hb=>s.mem.free j _ hj b hb) hal
  (fun i b u hb hu γ2=>by
   have h1:=List.all_eq_true.1 ho b (aQ hb)
   exact(hre i b u hb (by simpa using hu)).free h1)
 rw[hP]at key
 have fin:∀v w',(∃b s' H' O',v=.bool b∧ρ.step st avs b s'∧ρ.ok s' O' H' w'∧Stp w H (γ j).o w' H' O')→next (a.put d v) w':=by
  rintro v w' ⟨b,s',H',O',rfl,hstep,hok',hS⟩
  have o:∀i,i≠j→γ i=upd γ j ⟨(γ j).b,(γ j).n,O'⟩ i:=fun i hi=>(cN γ _ hi).symm
  have one:∀i f,look i ([(j,Ent.res ρ s')]:Sg)=some f→i=j∧f=.res ρ s':=fun i f hi=>by
   rw[ae]at hi
   split at hi
   ·next e'=>exact⟨e',by simpa using hi.symm⟩
   ·simp[look]at hi
  have hm:Mem w H (γ j).o (upd γ j ⟨(γ j).b,(γ j).n,O'⟩) H' [(j,.res ρ s')] w':=by
   refine⟨hS.keep,hS.hle,hS.hnew,hS.hok,fun i f hi=>?_,fun i f hi b hb=>?_,fun i f hi b hb=>?_,fun i f l f' b hi hl hb hb'=>?_⟩
   ·obtain⟨rfl,rfl⟩:=one i f hi
    show ρ.ok s' (upd γ i _ i).o H' w'
    rw[ap];exact hok'
   ·obtain⟨rfl,rfl⟩:=one i f hi
    simp only[blk,ap]at hb
    exact hS.free b hb
   ·obtain⟨rfl,rfl⟩:=one i f hi
    simp only[blk,ap]at hb
    exact(hS.own b hb).symm
   ·obtain⟨rfl,_⟩:=one i f hi;obtain⟨rfl,_⟩:=one l f' hl;rfl
  refine hk _ H' _ _ _ w' (s.step (σr:=al [(j,.res ρ st)] σ) hm (fun b hb=>⟨j,_,hj,by rw[be,ae,if_pos rfl];rfl,hb⟩) fR (fun i e hi=>?_) (fun i e hi=>⟨o i ?_,fun l hl=>o l fun e=>?_⟩) (fun i hi=>o i (gb hf hi)) (fun i y hi l hl=>o l fun e=>?_) hN fy) (k b s' hstep)
  ·rw[ae,if_neg (aS hf hi).1];rfl
  ·exact(aS hf hi).1
  ·subst e;rw[(aS hf hi).2]at hl;cases hl
  ·subst e;rw[dK hf hi]at hl;cases hl
 rcases key with⟨f,caps,hfe,hcok,hcalls⟩|⟨l,f,tmps,asg,body,hfe,hy,hround⟩
 ·rw[aG (by simp),lV (us:=caps.toList) (by rw[hfv,hfe]) hcok,Oper.uponIn_enter]
  refine⟨fun h=>by simp[Fr]at h,?_⟩
  simp only[Array.toArray_toList]at hcalls ⊢
  have hcalls':=hcalls.mono (R':=fun e w''=>match e with
   |.returned v=>next (a.put d v) w''
   |.panicked chain=>Q' (.panic chain) a w''
   |.outgrown=>LetsOut Q') fun e w' ⟨v,he,hR⟩=>by subst he;exact fin v w' hR
  cases hro:X.ro with
  |none=>exact hcalls'.mono fun e w' h=>by cases e<;>exact h
  |some l0=>exact CallsIn.inRound l0 (hcalls'.mono fun e w' h=>by cases e<;>exact h)
 ·have hrun:(execOp a.eval ⟨d,.call {callee:=.value x,args:=args,argTypes:=tys},ty,pos,aft,g⟩).run X.P w=.ok (.round l f tmps asg body) w:=by
   have hq:a.eval x=.func (.yield l) #[] #[]:=by rw[hfv,hfe]
   simp only[Array.toArray_toList]at hy
   simpa[execOp,resolve,hq,Deferred.ofValue,invoke]using hy
  rw[aG (by simp),hrun,Oper.uponIn_round]
  refine⟨fun h=>by simp[Fr]at h,?_⟩
  have hr':=hround.mono (R':=fun e w''=>match e with
   |.returned v=>next (a.put d v) w''
   |.panicked chain=>Q' (.panic chain) a w''
   |.outgrown=>LetsOut Q') fun e w' ⟨v,he,hR⟩=>by subst he;exact fin v w' hR
  cases hro:X.ro with
  |none=>exact hr'.mono fun e w' h=>by cases e<;>exact h
  |some l0=>exact(show RoundIn (Fr none) 0 X.P l f tmps asg body w _ from hr'.mono fun e w' h=>by cases e<;>exact h)
end call
end Go.Gv
end
section
namespace Go.Gv
open Go.RowKit
def Can (ρ:Res):ρ.S→List (List AV)→Prop
 |_,[]=>True
 |s,x::L=>ρ.pre s x∧∀s',ρ.step s x true s'→Can ρ s' L
inductive Feeds (ρ:Res):ρ.S→List (List AV)→Bool→ρ.S→Prop where
 |nil (s:ρ.S):Feeds ρ s [] true s
 |go {s s1 s2:ρ.S} {x:List AV} {L:List (List AV)} {b:Bool} (h:ρ.step s x true s1) (k:Feeds ρ s1 L b s2):Feeds ρ s (x::L) b s2
 |stop {s s1:ρ.S} {x:List AV} {L:List (List AV)} (h:ρ.step s x false s1):Feeds ρ s (x::L) false s1
theorem Can.app {ρ:Res}:∀{L M:List (List AV)}{s:ρ.S},Can ρ s (L++M)→Can ρ s L∧∀s',Feeds ρ s L true s'→Can ρ s' M
 |[],M,s,h=>⟨trivial,fun s' k=>by cases k;exact h⟩
 |x::L,M,s,h=>⟨⟨h.1,fun s' k=>(Can.app (h.2 s' k)).1⟩,fun s' k=>by
  cases k with
  |go h1 k1=>exact(Can.app (h.2 _ h1)).2 s' k1⟩
theorem Feeds.app {ρ:Res}{L M:List (List AV)}{s s1 s2:ρ.S}{b:Bool}(h:Feeds ρ s L true s1)(k:Feeds ρ s1 M b s2):Feeds ρ s (L++M) b s2:=by
 generalize hb:true=c at h
 induction h with
 |nil s=>exact k
 |go h1 _ ih=>exact .go h1 (ih k hb)
 |stop h1=>cases hb
theorem Feeds.cut {ρ:Res}{L:List (List AV)}(M:List (List AV)){s s1:ρ.S}(h:Feeds ρ s L false s1):Feeds ρ s (L++M) false s1:=by
 generalize hb:false=c at h
 induction h with
 |nil s=>cases hb
 |go h1 _ ih=>exact .go h1 (ih hb)
 |stop h1=>exact .stop h1
def AW (Λ:Amb)(P:Program)(f:FuncId)(caps:List AV)(L:List (List AV)):Prop:=
 ∀(ρ:Res),ρ.P=P→ρ.Λ=Λ→∀s,Can ρ s L→Ct Λ P f (.d (.v ρ.fv)::caps) [(0,.res ρ s)] (fun _ σ'=>∃b s',Feeds ρ s L b s'∧σ'=[(0,.res ρ s')])
def nm0:AV→List Nat
 |.box i _=>[i]
 |.boxX i _=>[i]
 |.arr i _ _=>[i]
 |.suf i _ _ _=>[i]
 |.mp i=>[i]
 |_=>[]
def nm1:AV→List Nat
 |.agg cs=>cs.flatMap nm0
 |.tup cs=>cs.flatMap nm0
 |.fnp _ cs=>cs.flatMap nm0
 |a=>nm0 a
def pV:AV→Bool
 |.agg _=>false
 |.tup _=>false
 |.fnp _ _=>false
 |_=>true
def sJ:AV→Bool
 |.agg cs=>cs.all pV
 |.tup cs=>cs.all pV
 |.fnp _ cs=>cs.all pV
 |_=>true
theorem B2 {i:Nat}{a:AV}(h:bX i a=true)(hf:pV a=true):i∈nm0 a:=by
 cases a<;>simp_all [bX,nm0,pV]
theorem oV {i:Nat}{cs:List AV}(hf:cs.all pV=true)(h:cs.any (bX i)=true):i∈cs.flatMap nm0:=by
 obtain⟨x,hx,h1⟩:=List.any_eq_true.1 h
 exact List.mem_flatMap.2 ⟨x,hx,B2 h1 (List.all_eq_true.1 hf x hx)⟩
theorem BZ {i:Nat}{a:AV}(h:cm i a=true)(hf:sJ a=true):i∈nm1 a:=by
 cases a with
 |agg cs=>exact oV hf h
 |tup cs=>exact oV hf h
 |fnp f cs=>exact oV hf h
 |d x=>simp[cm,bX]at h
 |full k xs=>simp[cm,bX]at h
 |junk=>simp[cm,bX]at h
 |box j off=>simp only[cm,bX,Nat.beq_eq]at h;subst h;simp[nm1,nm0]
 |boxX j off=>simp only[cm,bX,Nat.beq_eq]at h;subst h;simp[nm1,nm0]
 |arr j k n=>simp only[cm,bX,Nat.beq_eq]at h;subst h;simp[nm1,nm0]
 |suf j k l n=>simp only[cm,bX,Nat.beq_eq]at h;subst h;simp[nm1,nm0]
 |mp j=>simp only[cm,bX,Nat.beq_eq]at h;subst h;simp[nm1,nm0]
def nm2:AV→List Nat
 |.agg cs=>cs.flatMap nm1
 |.tup cs=>cs.flatMap nm1
 |.fnp _ cs=>cs.flatMap nm1
 |a=>nm0 a
def Dp:AV→Bool
 |.agg cs=>cs.all sJ
 |.tup cs=>cs.all sJ
 |.fnp _ cs=>cs.all sJ
 |_=>true
theorem q7 {i:Nat}{cs:List AV}(hf:cs.all sJ=true)(h:cs.any (cm i)=true):i∈cs.flatMap nm1:=by
 obtain⟨x,hx,h1⟩:=List.any_eq_true.1 h
 exact List.mem_flatMap.2 ⟨x,hx,BZ h1 (List.all_eq_true.1 hf x hx)⟩
theorem BY {i:Nat}{a:AV}(h:aP i a=true)(hf:Dp a=true):i∈nm2 a:=by
 cases a with
 |agg cs=>exact q7 hf h
 |tup cs=>exact q7 hf h
 |fnp f cs=>exact q7 hf h
 |d x=>simp[aP,cm,bX]at h
 |full k xs=>simp[aP,cm,bX]at h
 |junk=>simp[aP,cm,bX]at h
 |box j off=>simp only[aP,cm,bX,Nat.beq_eq]at h;subst h;simp[nm2,nm0]
 |boxX j off=>simp only[aP,cm,bX,Nat.beq_eq]at h;subst h;simp[nm2,nm0]
 |arr j k n=>simp only[aP,cm,bX,Nat.beq_eq]at h;subst h;simp[nm2,nm0]
 |suf j k l n=>simp only[aP,cm,bX,Nat.beq_eq]at h;subst h;simp[nm2,nm0]
 |mp j=>simp only[aP,cm,bX,Nat.beq_eq]at h;subst h;simp[nm2,nm0]
def cU:T→List Nat
 |[]=>[]
 |(_,a)::t=>nm2 a++cU t
def ou (t:T):Bool:=t.all fun p=>Dp p.2
theorem BK {t:T}(hf:ou t=true){i j:Nat}{a:AV}(hj:look j t=some a)(hi:aP i a=true):i∈cU t:=by
 have h1:=cI hj
 have h2:=List.all_eq_true.1 hf _ h1
 have h3:=BY hi h2
 clear hj hf h2 hi
 induction t with
 |nil=>simp at h1
 |cons p t ih=>
  obtain⟨k,b⟩:=p
  simp only[cU,List.mem_append]
  rcases List.mem_cons.1 h1 with h|h
  ·cases h;exact .inl h3
  ·exact .inr (ih h)
end Go.Gv
end
section
namespace Go.Gv
open Go.RowKit
def Bg:List Nat→List AV→T→T
 |p::ps,a::as1,t=>Bg ps as1 ((p,a)::t)
 |_,_,t=>t
theorem yf {γ:Ids}{H:HF}{N:Nat}:∀(ps:List Nat)(as1:List AV)(us:List Value)(t:T)(tm:Array Value),TmpOk γ H t tm→tm.size=N→(∀p,p∈ps→p<N)→us.length=as1.length→
 (∀(j:Nat)(a:AV)(u:Value),as1[j]?=some a→us[j]?=some u→Rep γ H a u)→TmpOk γ H (Bg ps as1 t) ((ps.zip us).foldl (fun tm p=>tm.setIfInBounds p.1 p.2) tm)∧((ps.zip us).foldl (fun tm p=>tm.setIfInBounds p.1 p.2) tm).size=N
 |[],as1,us,t,tm,h,hs,_,_,_=>⟨h,hs⟩
 |p::ps,[],us,t,tm,h,hs,_,hl,_=>by
  have:us=[]:=List.length_eq_zero_iff.1 hl
  subst this
  exact⟨h,hs⟩
 |p::ps,a::as1,[],t,tm,h,hs,_,hl,_=>by simp at hl
 |p::ps,a::as1,u::us,t,tm,h,hs,hp,hl,hr=>by
  have hlt:p<tm.size:=by rw[hs];exact hp p (by simp)
  refine yf ps as1 us ((p,a)::t) (tm.setIfInBounds p u) (fun i b hi=>?_) (by simpa using hs) (fun q hq=>hp q (List.mem_cons_of_mem _ hq)) (by simpa using hl) (fun j b v hb hv=>hr (j+1) b v (by simpa using hb) (by simpa using hv))
  rw[ae]at hi
  split at hi
  ·next e=>
   subst e
   simp only[Option.some.injEq]at hi;subst hi
   exact⟨u,by simp[hlt],hr 0 a u rfl rfl⟩
  ·next e=>
   obtain⟨v,hv,r⟩:=h i b hi
   exact⟨v,by rw[Array.getElem?_setIfInBounds,if_neg (fun h=>e h.symm)];exact hv,r⟩
theorem og {H:HF}{w:World}{l:Nat}{r r':Loop}(h:HOk H w)(hl:w.heap[l]?=some (.loop r)):HOk H (w.putObj l (.loop r')):=by
 have hne:∀c x v,w.cell? ⟨c,x,none⟩=some v→c≠l:=fun c x v hc e=>by subst e;simp[World.cell?,hl]at hc
 refine⟨fun c x v hv=>?_,fun c x y hv=>?_⟩
 ·have:=h.c c x v hv
  have h2:=hne c x v this
  simp only[World.cell?]at this ⊢
  rw[World.putObj_heap_other h2];exact this
 ·have:=h.m c x y hv
  rw[World.putObj_heap_other fun e=>by subst e;rw[hl]at this;cases this];exact this
theorem y8 {w0 w:World}{H0 H:HF}{B:Nat→Prop}{γ:Ids}{σ:Sg}{l:Nat}{r r':Loop}(h:Mem w0 H0 B γ H σ w)(hl:w.heap[l]?=some (.loop r))(h0:l<w0.heap.size)(hB:¬B l):
 Mem (w0.putObj l (.loop r')) H0 B γ H σ (w.putObj l (.loop r')):=by
 have hb:∀i e b,look i σ=some e→blk γ i e b→b≠l:=fun i e b hi hb e'=>by
  subst e'
  rcases h.fresh i e hi b hb with h1|h1
  ·omega
  ·exact hB h1
 refine⟨⟨h.keep.os,h.keep.tape,h.keep.output,by simpa using h.keep.size,fun k hk hk'=>?_⟩,h.hle,?_,og h.hok hl,fun i e hi=>(h.ent i e hi).later (HLe.refl _) (by simp) fun b hbb=>World.putObj_heap_other (hb i e b hi hbb),h.free,fun i e hi b hbb=>by simpa using h.fresh i e hi b hbb,h.apart⟩
 ·by_cases e:k=l
  ·subst e
   rw[World.putObj_heap_same (aF hl),World.putObj_heap_same h0]
  ·rw[World.putObj_heap_other e,World.putObj_heap_other e]
   exact h.keep.block k (by simpa using hk) hk'
 ·have:=h.hnew
  refine⟨fun b o v hv=>?_,fun b x hv=>?_⟩
  ·simpa using this.c b o v hv
  ·simpa using this.m b x hv
section
variable {α V:Type} (enc:α→List AV) (L:List α) (SS:V→Sg) (I:List α→V→Prop) (Ix:Code→List α→V→Prop)
structure ROk (l D:Nat)(outer:Bool)(rc:LoopState→Option Code→Loop)(pins:List Nat)(γe:Ids)(t:T)(tmps:Array Value)(s:List α×Option Code)(O:Nat→Prop)(H:HF)(w:World)(v:V)(γ:Ids):Prop where
 inv:match s.2 with|none=>I s.1 v|some c=>Ix c s.1 v
 pin:∀i,i∈pins→γ i=γe i
 tmp:TmpOk γ H t tmps
 rcd:w.heap[l]?=some (.loop (rc (match s.2 with|none=>.ready|some _=>.done) s.2))
 dfr:outer=true→w.heap[D]?=some (.deferred (some []))
 lt:∀b,O b→b<w.heap.size
 ol:O l
 od:outer=true→O D
 ent:∀i e,look i (SS v)=some e→EntOk γ H w i e
 blk:∀i e b,look i (SS v)=some e→Gv.blk γ i e b→O b∧b≠l∧(outer=true→b≠D)
 apart:∀i e j e' b,look i (SS v)=some e→look j (SS v)=some e'→Gv.blk γ i e b→Gv.blk γ j e' b→i=j
theorem ROk.later {l D:Nat}{outer:Bool}{rc:LoopState→Option Code→Loop}{pins:List Nat}{γe:Ids}{t:T}{tmps:Array Value}{s:List α×Option Code}{O:Nat→Prop}{H H':HF}{w w':World}{v:V}{γ:Ids}
 (h:ROk SS I Ix l D outer rc pins γe t tmps s O H w v γ)(hle:HLe H H')(hs:w.heap.size≤w'.heap.size)(hb:∀b,O b→w'.heap[b]?=w.heap[b]?):ROk SS I Ix l D outer rc pins γe t tmps s O H' w' v γ:=
 ⟨h.inv,h.pin,h.tmp.mono hle,(hb l h.ol).trans h.rcd,fun o=>(hb D (h.od o)).trans (h.dfr o),fun b hbb=>Nat.lt_of_lt_of_le (h.lt b hbb) hs,h.ol,h.od,fun i e hi=>(h.ent i e hi).later hle hs fun b hbb=>hb b (h.blk i e b hi hbb).1,h.blk,h.apart⟩
def Gg (p:List α):Qt
 |.normal,_,σ=>∃v',I p v'∧Has (SS v') σ
 |.ret,_,σ=>∃v',Ix .ret p v'∧Has (SS v') σ
 |.exit id,_,σ=>∃v',Ix (.exit id) p v'∧Has (SS v') σ
 |.goto g,_,σ=>∃v',Ix (.goto g) p v'∧Has (SS v') σ
 |_,_,_=>False
def l7 (P:Program)(Λ:Amb)(N l:Nat)(pins:List Nat)(ps:List Nat)(assign body:Code)(t:T):Prop:=
 ∀(pre:List α)(x:α)(post:List α)(v:V),L=pre++x::post→I pre v→∀w0 H0 B g0,vc ⟨P,Λ,some l,w0,H0,B,N,pins,g0⟩ assign (Bg ps (enc x) t) (SS v) (fun e t' σ'=>match e with
  |.normal=>∀w0 H0 B g0,vc ⟨P,Λ,some l,w0,H0,B,N,pins,g0⟩ body t' σ' (Gg SS I Ix (pre++[x]))
  |_=>False)
def FI (s:List α×Option Code)(xs:List AV):Prop:=s.2=none∧∃x post,L=s.1++x::post∧xs=enc x
def yI (s:List α×Option Code)(xs:List AV)(b:Bool)(s':List α×Option Code):Prop:=
 s.2=none∧∃x post,L=s.1++x::post∧xs=enc x∧((b=true∧s'=(s.1++[x],none))∨(b=false∧∃c,s'=(s.1++[x],some c)))
theorem wI {P:Program}{Λ:Amb}{N l D:Nat}{outer:Bool}{fn:FuncId}{ps:Array Nat}{assign body:Code}{df:Nat}{pins:List Nat}{γe:Ids}{t:T}{tmps:Array Value}(hsz:tmps.size=N)(hps:∀p,p∈ps.toList→p<N)(hen:∀x,(enc x).length=ps.size)
 (hD:outer=true→D≠l)(hfl:ou t=true)(hpn:∀i,i∈cU t→i∈pins)(hround:l7 enc L SS I Ix P Λ N l pins ps.toList assign body t){s:List α×Option Code}{xs:List AV}(hpre:FI enc L s xs)(H:HF)(w:World)(O:Nat→Prop)(vs:List Value)(hΛ:Lam Λ w O)
 (hok:∃v γ,ROk SS I Ix l D outer (fun st pe=>{state:=st,pending:=pe,fn:=fn,tmps:=tmps,params:=ps,assign:=assign,body:=body,defers:=df}) pins γe t tmps s O H w v γ)(hH:HOk H w)(hfree:∀b,O b→Free H b)(hl:vs.length=xs.length)
 (hr:∀(j:Nat)(a:AV)(u:Value),xs[j]?=some a→vs[j]?=some u→∀γ,Rep γ H a u):
 DC P (.func (.yield l) #[] #[]) vs w fun v w'=>∃b s' H' O',v=.bool b∧yI enc L s xs b s'∧(∃v γ,ROk SS I Ix l D outer (fun st pe=>{state:=st,pending:=pe,fn:=fn,tmps:=tmps,params:=ps,assign:=assign,body:=body,defers:=df}) pins γe t tmps s' O' H' w' v γ)∧Stp w H O w' H' O':=by
 obtain⟨rc,hrc⟩:∃rc:LoopState→Option Code→Loop,rc=fun st pe=>{state:=st,pending:=pe,fn:=fn,tmps:=tmps,params:=ps,assign:=assign,body:=body,defers:=df}:=⟨_,rfl⟩
 rw[←hrc]at hok ⊢
 obtain⟨v,γ,R⟩:=hok
 obtain⟨p,o⟩:=s
 obtain⟨h1,x,post,hL,rfl⟩:=hpre
 simp only at h1 hL;subst h1
 have hrec:=R.rcd
 simp only at hrec
 have hinv:I p v:=R.inv
 let B1:Nat→Prop:=fun b=>O b∧b≠l∧(outer=true→b≠D)
 have hlw:l<w.heap.size:=R.lt l R.ol
 have hy:=run_yield (P:=P) (args:=vs.toArray) hrec (by rw[hrc];simp[hl,hen x])
 simp only[hrc]at hy
 have hzip:(ps.zip vs.toArray).foldl (fun tmps x=>match x with|(t,a)=>tmps.setIfInBounds t a) tmps=(ps.toList.zip vs).foldl (fun tm p=>tm.setIfInBounds p.1 p.2) tmps:=by
  rw[←Array.foldl_toList];simp
 obtain⟨htm,hts⟩:=yf (γ:=γ) (H:=H) ps.toList (enc x) vs t tmps R.tmp hsz hps hl (fun j a u ha hu=>hr j a u ha hu γ)
 refine .inr ⟨l,fn,_,assign,body,rfl,hy,roundIn_of_wpIn trivial ?_⟩
 rw[hzip]
 generalize hT:(ps.toList.zip vs).foldl (fun tm p=>tm.setIfInBounds p.1 p.2) tmps=tm1 at htm hts
 have hB1l:¬B1 l:=fun h=>h.2.1 rfl
 have hB1D:outer=true→¬B1 D:=fun ho h=>h.2.2 ho rfl
 have s0:St ⟨P,Λ,some l,w,H,B1,N,pins,γ⟩ γ H (Bg ps.toList (enc x) t) (SS v) {tmps:=tm1,defers:=[]} w:=by
  refine⟨⟨hΛ.1,hΛ.2.1,fun b hb=>hΛ.2.2 b hb.1⟩,fun l' e=>?_,⟨[],rfl,List.nodup_nil,fun b h=>by simp at h⟩,hts,fun i _=>rfl,htm,?_⟩
  ·cases e;exact⟨⟨_,hrec⟩,hB1l⟩
  ·exact⟨Keeps.refl _ _,HLe.refl _,HNew.refl _ _ _,hH,R.ent,fun i e hi b hb=>hfree b (R.blk i e b hi hb).1,fun i e hi b hb=>.inr (R.blk i e b hi hb),R.apart⟩
 have hv:=aq _ _ _ _ (hround p x post v hL hinv w H B1 γ)
 refine wpIn_mono (hv γ H _ w s0) ?_
 rintro e a1 w1 ⟨γ1,H1,t1,σ1,s1,q1⟩
 cases e with
 |normal=>
  have hl1:w1.heap[l]?=some (.loop (rc .ready none)):=(s1.mem.keep.block l hlw hB1l).trans hrec
  refine⟨_,run_beginRound hl1 (by rw[hrc]),?_⟩
  obtain⟨bz,hbz⟩:∃bz:Loop,bz={rc .ready none with state:=.busy}:=⟨_,rfl⟩
  rw[←hbz]
  have hl2:(w1.putObj l (.loop bz)).heap[l]?=some (.loop bz):=World.putObj_heap_same (aF hl1)
  have s2:St ⟨P,Λ,some l,w.putObj l (.loop bz),H,B1,N,pins,γ⟩ γ1 H1 t1 σ1 a1 (w1.putObj l (.loop bz)):=by
   refine⟨⟨Λ.st hΛ.1 fun k hk=>World.putObj_heap_other (fun e=>by have:=hΛ.2.2 l R.ol;omega),by simpa using hΛ.2.1,fun b hb=>hΛ.2.2 b hb.1⟩,fun l' e=>?_,?_,s1.size,s1.pinned,s1.tmp,y8 s1.mem hl1 hlw hB1l⟩
   ·cases e;exact⟨⟨_,World.putObj_heap_same hlw⟩,hB1l⟩
   ·obtain⟨ms,hd,m1,m2⟩:=s1.defers
    refine⟨ms,hd,m1,fun b hb=>?_⟩
    obtain⟨h3,h4,h5⟩:=m2 b hb
    exact⟨by rw[World.putObj_heap_other (fun e=>by subst e;rw[hl1]at h3;cases h3)];exact h3,by simpa using h4,h5⟩
  refine wpIn_mono (aq _ _ _ _ (q1 _ _ _ _) γ1 H1 a1 _ s2) ?_
  rintro e a3 w3 ⟨γ3,H3,t3,σ3,s3,q3⟩
  have hl3:w3.heap[l]?=some (.loop bz):=(s3.mem.keep.block l (by simpa using hlw) hB1l).trans (World.putObj_heap_same hlw)
  have fin:∀(jump:Option Code)(v':V),(match jump with|none=>I (p++[x]) v'|some c=>Ix c (p++[x]) v')→Has (SS v') σ3→
   ∃u w',(Instr.endRound l jump).run P w3=.ok u w'∧∃v,Ending.returned u=.returned v∧∃b s' H' O',v=.bool b∧yI enc L (p,none) (enc x) b s'∧(∃v γ,ROk SS I Ix l D outer rc pins γe t tmps s' O' H' w' v γ)∧Stp w H O w' H' O':=by
   intro jump v' hJ hHas
   have hrun:=run_endRound (P:=P) jump hl3
   have hrec':({bz with state:=if jump.isNone then .ready else .done,pending:=jump}:Loop)=rc (if jump.isNone then .ready else .done) jump:=by rw[hbz,hrc]
   rw[hrec']at hrun
   have hwk:=hHas.wk
   refine⟨_,_,hrun,_,rfl,jump.isNone,(p++[x],jump),H3,fun b=>(∃i e,look i (SS v')=some e∧blk γ3 i e b)∨b=l∨(outer=true∧b=D),rfl,⟨rfl,x,post,hL,rfl,?_⟩,⟨v',γ3,?_⟩,?_⟩
   ·cases jump with
    |none=>exact .inl ⟨rfl,rfl⟩
    |some c=>exact .inr ⟨rfl,c,rfl⟩
   ·have hbl:∀i e b,look i (SS v')=some e→blk γ3 i e b→b≠l∧(outer=true→b≠D):=fun i e b hi hb=>by
     rcases s3.mem.fresh i e (hwk i e hi) b hb with h|h
     ·simp only[World.putObj_size]at h
      exact⟨by omega,fun ho=>by have:=R.lt D (R.od ho);omega⟩
     ·exact⟨h.2.1,h.2.2⟩
    have hne:∀ho:outer=true,D≠l:=hD
    refine⟨?_,fun i hi=>(s3.pinned i hi).trans (R.pin i hi),fun i a hi=>?_,?_,fun ho=>?_,fun b hb=>?_,.inr (.inl rfl),fun ho=>.inr (.inr ⟨ho,rfl⟩),fun i e hi=>(s3.mem.ent i e (hwk i e hi)).later (HLe.refl _) (by simp) fun b hb=>World.putObj_heap_other (hbl i e b hi hb).1,fun i e b hi hb=>⟨.inl ⟨i,e,hi,hb⟩,hbl i e b hi hb⟩,fun i e j e' b hi hj=>s3.mem.apart i e j e' b (hwk i e hi) (hwk j e' hj)⟩
    ·cases jump<;>exact hJ
    ·obtain⟨u,hu,r⟩:=R.tmp i a hi
     refine⟨u,hu,(r.mono s3.mem.hle).agree fun j hj=>?_⟩
     exact(s3.pinned j (hpn j (BK hfl hi hj))).symm
    ·rw[World.putObj_heap_same (aF hl3)]
     cases jump<;>rfl
    ·rw[World.putObj_heap_other (hne ho),s3.mem.keep.block D (by simpa using R.lt D (R.od ho)) (hB1D ho),World.putObj_heap_other (hne ho)]
     exact R.dfr ho
    ·have hs3:w.heap.size≤w3.heap.size:=by have:=s3.mem.keep.size;simpa using this
     rcases hb with⟨i,e,hi,hb⟩|rfl|⟨ho,rfl⟩
     ·simpa using(s3.mem.ent i e (hwk i e hi)).lt hb
     ·simpa using aF hl3
     ·have:=R.lt b (R.od ho);simp;omega
   ·have hw0:(w.putObj l (.loop bz)).heap.size=w.heap.size:=by simp
    have hnw:=s3.mem.hnew
    simp only[hw0]at hnw
    refine⟨⟨s3.mem.keep.os,s3.mem.keep.tape,s3.mem.keep.output,by have:=s3.mem.keep.size;simpa using this,fun k hk hko=>?_⟩,s3.mem.hle,⟨fun b o v hv=>?_,fun b x hv=>?_⟩,og s3.mem.hok hl3,fun b hb=>?_,fun b hb=>?_⟩
    ·have hkl:k≠l:=fun e=>hko (e▸R.ol)
     rw[World.putObj_heap_other hkl,s3.mem.keep.block k (by simpa using hk) (fun h=>hko h.1),World.putObj_heap_other hkl]
    ·rcases hnw.c b o v hv with h|h|h
     ·exact .inl h
     ·exact .inr (.inl h)
     ·exact .inr (.inr h.1)
    ·rcases hnw.m b x hv with h|h|h
     ·exact .inl h
     ·exact .inr (.inl h)
     ·exact .inr (.inr h.1)
    ·rcases hb with⟨i,e,hi,hb⟩|rfl|⟨ho,rfl⟩
     ·rcases s3.mem.fresh i e (hwk i e hi) b hb with h|h
      ·exact .inr (by simpa using h)
      ·exact .inl h.1
     ·exact .inl R.ol
     ·exact .inl (R.od ho)
    ·rcases hb with⟨i,e,hi,hb⟩|rfl|⟨ho,rfl⟩
     ·exact s3.mem.free i e (hwk i e hi) b hb
     ·exact(hfree b R.ol).later hnw hlw hB1l
     ·exact(hfree b (R.od ho)).later hnw (R.lt b (R.od ho)) (hB1D ho)
  cases e with
  |normal=>obtain⟨v',hi,hh⟩:=q3;exact fin none v' hi hh
  |ret=>obtain⟨v',hi,hh⟩:=q3;exact fin (some .ret) v' hi hh
  |exit id=>obtain⟨v',hi,hh⟩:=q3;exact fin (some (.exit id)) v' hi hh
  |goto g=>obtain⟨v',hi,hh⟩:=q3;exact fin (some (.goto g)) v' hi hh
  |panic ch=>exact q3.elim
  |outgrown=>exact q3.elim
 |exit id=>exact q1.elim
 |goto g=>exact q1.elim
 |ret=>exact q1.elim
 |panic ch=>exact q1.elim
 |outgrown=>exact q1.elim
end
end Go.Gv
end
section
namespace Go.Gv
open Go.RowKit
theorem Feeds.inv {ρ:Res}{s s':ρ.S}{M:List (List AV)}{b:Bool}(h:Feeds ρ s M b s'):(M=[]∧b=true∧s'=s)∨(∃x L s1,M=x::L∧ρ.step s x true s1∧Feeds ρ s1 L b s')∨(∃x L,M=x::L∧b=false∧ρ.step s x false s'):=by
 cases h with
 |nil=>exact .inl ⟨rfl,rfl,rfl⟩
 |go h k=>exact .inr (.inl ⟨_,_,_,rfl,h,k⟩)
 |stop h=>exact .inr (.inr ⟨_,_,rfl,rfl,h⟩)
section
variable {α V:Type} (enc:α→List AV) (L:List α) (SS:V→Sg) (I:List α→V→Prop) (Ix:Code→List α→V→Prop)
def nz {P:Program}{Λ:Amb}{N l D:Nat}{outer:Bool}{fn:FuncId}{ps:Array Nat}{assign body:Code}{df:Nat}{pins:List Nat}{γe:Ids}{t:T}{tmps:Array Value}(hsz:tmps.size=N)(hps:∀p,p∈ps.toList→p<N)(hen:∀x,(enc x).length=ps.size)
 (hD:outer=true→D≠l)(hfl:ou t=true)(hpn:∀i,i∈cU t→i∈pins)(hround:l7 enc L SS I Ix P Λ N l pins ps.toList assign body t):Res where
 S:=List α×Option Code
 P:=P
 Λ:=Λ
 fv:=.func (.yield l) #[] #[]
 ok s O H w:=∃v γ,ROk SS I Ix l D outer (fun st pe=>{state:=st,pending:=pe,fn:=fn,tmps:=tmps,params:=ps,assign:=assign,body:=body,defers:=df}) pins γe t tmps s O H w v γ
 lt:=fun⟨_,_,h⟩=>h.lt
 later:=fun⟨v,γ,h⟩ h1 h2 h3=>⟨v,γ,h.later SS I Ix h1 h2 h3⟩
 pre:=FI enc L
 step:=yI enc L
 run:=fun hp H w O vs hΛ hok hH hf hl hr=>wI enc L SS I Ix hsz hps hen hD hfl hpn hround hp H w O vs hΛ hok hH hf hl hr
theorem qa {P:Program}{Λ:Amb}{N l D:Nat}{outer:Bool}{fn:FuncId}{ps:Array Nat}{assign body:Code}{df:Nat}{pins:List Nat}{γe:Ids}{t:T}{tmps:Array Value}(hsz:tmps.size=N)(hps:∀p,p∈ps.toList→p<N)(hen:∀x,(enc x).length=ps.size)
 (hD:outer=true→D≠l)(hfl:ou t=true)(hpn:∀i,i∈cU t→i∈pins)(hround:l7 enc L SS I Ix P Λ N l pins ps.toList assign body t):∀(al p:List α),L=p++al→
 Can (nz enc L SS I Ix (D:=D) (outer:=outer) (fn:=fn) (df:=df) (γe:=γe) hsz hps hen hD hfl hpn hround) (p,none) (al.map enc)
 |[],p,_=>trivial
 |x::al,p,h=>⟨⟨rfl,x,al,h,rfl⟩,fun s' hs=>by
  obtain⟨_,x',post,h1,_,h2⟩:=hs
  rcases h2 with⟨_,rfl⟩|⟨h2,_⟩
  ·have:x'::post=x::al:=List.append_cancel_left (h1.symm.trans h)
   cases this
   exact qa hsz hps hen hD hfl hpn hround al (p++[x]) (by rw[h,List.append_assoc];rfl)
  ·cases h2⟩
theorem mu {P:Program}{Λ:Amb}{N l D:Nat}{outer:Bool}{fn:FuncId}{ps:Array Nat}{assign body:Code}{df:Nat}{pins:List Nat}{γe:Ids}{t:T}{tmps:Array Value}(hsz:tmps.size=N)(hps:∀p,p∈ps.toList→p<N)(hen:∀x,(enc x).length=ps.size)
 (hD:outer=true→D≠l)(hfl:ou t=true)(hpn:∀i,i∈cU t→i∈pins)(hround:l7 enc L SS I Ix P Λ N l pins ps.toList assign body t):∀(al p:List α)(b:Bool)(s':List α×Option Code),L=p++al→
 Feeds (nz enc L SS I Ix (D:=D) (outer:=outer) (fn:=fn) (df:=df) (γe:=γe) hsz hps hen hD hfl hpn hround) (p,none) (al.map enc) b s'→s'=(L,none)∨∃q c,s'=(q,some c)
 |[],p,b,s',h,k=>by
  rw[List.append_nil]at h
  rcases k.inv with⟨_,_,e⟩|⟨_,_,_,e,_⟩|⟨_,_,e,_⟩
  ·exact .inl (by rw[h];exact e)
  ·cases e
  ·cases e
 |x::al,p,b,s',h,k=>by
  rcases k.inv with⟨e,_⟩|⟨y,M,s1,e,hs,k⟩|⟨y,M,e,_,hs⟩
  ·cases e
  ·cases e
   obtain⟨_,x',post,h1,_,h2⟩:=hs
   rcases h2 with⟨_,rfl⟩|⟨h2,_⟩
   ·have:x'::post=x::al:=List.append_cancel_left (h1.symm.trans h)
    cases this
    exact mu hsz hps hen hD hfl hpn hround al (p++[x]) b s' (by rw[h,List.append_assoc];rfl) k
   ·cases h2
  ·cases e
   obtain⟨_,x',post,h1,_,h2⟩:=hs
   rcases h2 with⟨h2,_⟩|⟨_,c,e⟩
   ·cases h2
   ·exact .inr ⟨_,c,e⟩
theorem wR {X:Cx}{t:T}{σ:Sg}{γ γ' γ3:Ids}{H H':HF}{a:Act}{w W1 w3:World}{l D:Nat}{outer:Bool}{rc:LoopState→Option Code→Loop}{pins:List Nat}{s':List α×Option Code}{v0 v':V}{ρ:Res}{st:ρ.S}{mark:List Deferred}{O0:Nat→Prop}
 (s:St X γ H t σ a w)(hw:Wk (SS v0) σ)(hpin:∀i,i∈X.pin→i∈pins)
 (hO:∀b,O0 b→(∃i e,look i (SS v0)=some e∧Gv.blk γ i e b)∨b=l∨(outer=true∧b=D))
 (hl:w.heap.size≤l)(hD:outer=true→w.heap.size≤D∧D≠l)(hmark:mark=if outer=true then[{target:=.collected D,args:=#[]}]else[])
 (k1:Keeps w (fun _=>False) W1)(m:Mem W1 H O0 γ' H' [(0,.res ρ st)] w3)
 (R:ROk SS I Ix l D outer rc pins γ t a.tmps s' (γ' 0).o H' w3 v' γ3)(r':Loop):
 St X γ3 H' t (SS v') {a with defers:=mark++a.defers} (w3.putObj l (.loop r')):=by
 have hO':∀b,(γ' 0).o b→W1.heap.size≤b∨O0 b:=fun b hb=>m.fresh 0 _ rfl b hb
 have hz:=k1.size
 have old:∀b,O0 b→b<w.heap.size→∃i e,look i σ=some e∧Gv.blk γ i e b:=fun b hb hlt=>by
  rcases hO b hb with⟨i,e,hi,h⟩|rfl|⟨ho,rfl⟩
  ·exact⟨i,e,hw i e hi,h⟩
  ·omega
  ·have:=(hD ho).1;omega
 have xw:∀b,O0 b→X.w0.heap.size≤b∨X.B b:=fun b hb=>by
  by_cases hlt:b<w.heap.size
  ·obtain⟨i,e,hi,h⟩:=old b hb hlt
   exact s.mem.fresh i e hi b h
  ·have:=s.mem.keep.size;exact .inl (by omega)
 have fr:∀b,(γ' 0).o b→X.w0.heap.size≤b∨X.B b:=fun b hb=>by
  rcases hO' b hb with h|h
  ·have:=s.mem.keep.size;exact .inl (by omega)
  ·exact xw b h
 have hrec:=R.rcd
 have hlX:X.w0.heap.size≤l:=Nat.le_trans s.mem.keep.size hl
 refine⟨s.lam,s.round,?_,s.size,fun i hi=>(R.pin i (hpin i hi)).trans (s.pinned i hi),R.tmp,?_⟩
 ·obtain⟨ms,hd,m1,m2⟩:=s.defers
  have oldm:∀b,b∈ms→(w3.putObj l (.loop r')).heap[b]?=some (.deferred (some []))∧X.w0.heap.size≤b∧¬blks γ3 (SS v') b:=fun b hb=>by
   obtain⟨h3,h4,h5⟩:=m2 b hb
   have hlt:=aF h3
   have hno:¬O0 b:=fun h=>by obtain⟨i,e,hi,hbb⟩:=old b h hlt;exact h5 ⟨i,e,hi,hbb⟩
   refine⟨?_,h4,fun⟨i,e,hi,hbb⟩=>?_⟩
   ·rw[World.putObj_heap_other (by omega),m.keep.block b (by omega) hno,k1.block b hlt (fun h=>h)];exact h3
   ·rcases hO' b (R.blk i e b hi hbb).1 with h|h
    ·omega
    ·exact hno h
  cases ho:outer with
  |false=>
   rw[ho]at hmark
   refine⟨ms,by simp only[hmark,hd];rfl,m1,oldm⟩
  |true=>
   rw[ho]at hmark
   refine⟨D::ms,by simp only[hmark,hd];rfl,List.nodup_cons.2 ⟨fun hm=>?_,m1⟩,fun b hb=>?_⟩
   ·have:=aF (m2 D hm).1;have:=(hD ho).1;omega
   ·rcases List.mem_cons.1 hb with rfl|hb
    ·refine⟨by rw[World.putObj_heap_other (hD ho).2];exact R.dfr ho,Nat.le_trans s.mem.keep.size (hD ho).1,fun⟨i,e,hi,hbb⟩=>(R.blk i e b hi hbb).2.2 ho rfl⟩
    ·exact oldm b hb
 ·refine⟨⟨m.keep.os.trans (k1.os.trans s.mem.keep.os),m.keep.tape.trans (k1.tape.trans s.mem.keep.tape),m.keep.output.trans (k1.output.trans s.mem.keep.output),?_,fun k hk hkB=>?_⟩,s.mem.hle.trans m.hle,⟨fun b o v hv=>?_,fun b y hv=>?_⟩,og m.hok hrec,
   fun i e hi=>(R.ent i e hi).later (HLe.refl _) (by simp) fun b hb=>World.putObj_heap_other (R.blk i e b hi hb).2.1,fun i e hi b hb=>m.free 0 _ rfl b (R.blk i e b hi hb).1,fun i e hi b hb=>fr b (R.blk i e b hi hb).1,R.apart⟩
  ·have h1:=s.mem.keep.size;have h2:=m.keep.size;simp;omega
  ·have h1:=s.mem.keep.size
   have hno:¬O0 k:=fun h=>(xw k h).elim (fun h=>by omega) hkB
   rw[World.putObj_heap_other (by omega),m.keep.block k (by omega) hno,k1.block k (by omega) (fun h=>h),s.mem.keep.block k hk hkB]
  ·rcases m.hnew.c b o v hv with h|h|h
   ·exact s.mem.hnew.c b o v h
   ·have h1:=s.mem.keep.size;exact .inr (.inl (by omega))
   ·exact .inr (xw b h)
  ·rcases m.hnew.m b y hv with h|h|h
   ·exact s.mem.hnew.m b y h
   ·have h1:=s.mem.keep.size;exact .inr (.inl (by omega))
   ·exact .inr (xw b h)
theorem rW {X:Cx}{t:T}{σ:Sg}{γ:Ids}{H:HF}{a:Act}{w W1:World}{l D:Nat}{outer:Bool}{rc:LoopState→Option Code→Loop}{pins:List Nat}{v0:V}
 (s:St X γ H t σ a w)(hw:Wk (SS v0) σ)(hI:I [] v0)(hl:w.heap.size≤l)(hD:outer=true→w.heap.size≤D∧D≠l)
 (k1:Keeps w (fun _=>False) W1)(hrec:W1.heap[l]?=some (.loop (rc .ready none)))(hdf:outer=true→W1.heap[D]?=some (.deferred (some []))):
 ROk SS I Ix l D outer rc pins γ t a.tmps ([],none) (fun b=>(∃i e,look i (SS v0)=some e∧Gv.blk γ i e b)∨b=l∨(outer=true∧b=D)) H W1 v0 γ:=by
 have hz:=k1.size
 have hlt:∀i e b,look i (SS v0)=some e→Gv.blk γ i e b→b<w.heap.size:=fun i e b hi hb=>(s.mem.ent i e (hw i e hi)).lt hb
 refine⟨hI,fun _ _=>rfl,s.tmp,hrec,hdf,fun b hb=>?_,.inr (.inl rfl),fun ho=>.inr (.inr ⟨ho,rfl⟩),fun i e hi=>(s.mem.ent i e (hw i e hi)).later (HLe.refl _) hz fun b hb=>k1.block b (hlt i e b hi hb) (fun h=>h),
  fun i e b hi hb=>⟨.inl ⟨i,e,hi,hb⟩,?_,fun ho=>?_⟩,fun i e j e' b hi hj=>s.mem.apart i e j e' b (hw i e hi) (hw j e' hj)⟩
 ·rcases hb with⟨i,e,hi,hb⟩|rfl|⟨ho,rfl⟩
  ·have:=hlt i e b hi hb;omega
  ·exact aF hrec
  ·exact aF (hdf ho)
 ·have:=hlt i e b hi hb;omega
 ·have:=hlt i e b hi hb;have:=(hD ho).1;omega
end
end Go.Gv
end
section
namespace Go.Gv
open Go.RowKit
theorem fY (w:World)(o:Obj):Keeps w (fun _=>False) (w.alloc o):=⟨rfl,rfl,rfl,by simp,fun k hk _=>by
 show(w.heap.push o)[k]?=_
 rw[Array.getElem?_push,if_neg (by omega)]⟩
theorem xg {H:HF}{w w':World}(h:HOk H w)(k:Keeps w (fun _=>False) w'):HOk H w':=⟨fun b o v hv=>by
 have h1:=h.c b o v hv
 have hlt:=cr h1
 simp only[World.cell?]at h1 ⊢
 rw[k.block b hlt (fun x=>x)];exact h1,fun b es c hv=>by
 have h1:=h.m b es c hv
 exact(k.block b (aF h1) (fun x=>x)).trans h1⟩
theorem zr {H:HF}{w:World}(h:HOk H w){b:Nat}(hb:w.heap.size≤b):Free H b:=by
 refine⟨fun o=>?_,?_⟩
 ·cases hx:H.c b o with
  |none=>rfl
  |some v=>have:=cr (h.c b o v hx);omega
 ·cases hx:H.m b with
  |none=>rfl
  |some x=>obtain⟨es,c⟩:=x;have:=aF (h.m b es c hx);omega
section
variable {α V:Type} (enc:α→List AV) (L:List α) (SS:V→Sg) (I:List α→V→Prop) (Ix:Code→List α→V→Prop)
theorem xL {X:Cx}{g:Operand}{ps:Array Nat}{assign body:Code}{t:T}{σ:Sg}{Q:Qt}(v0:V){gf:FuncId}{caps:List AV}{av:AV}(hg:ge t g=some av)(hf:FnIs av gf caps)(hcap:caps.all AV.open=true)(hok:fI X.P gf)
 (hit:AW X.Λ X.P gf caps (L.map enc))(hfl:ou t=true)(hps:ps.toList.all (fun p=>Nat.blt p X.N)=true)(hen:∀x,(enc x).length=ps.size)(hs:Wk (SS v0) σ)(h0:I [] v0)
 (round:∀l,l7 enc L SS I Ix X.P X.Λ X.N l (X.pin++cU t) ps.toList assign body t)
 (done:∀v,I L v→Q .normal t (SS v))(stop:∀c p v,Ix c p v→vc X c t (SS v) Q):WJ X (.rangeFunc g ps assign body) t σ Q:=by
 intro γ H a w s
 refine wpIn_rangeFunc ?_
 intro fn hfn
 obtain⟨us,hgv,hul,hur⟩:=hf.rep (aT s.tmp hg)
 have hps':∀p,p∈ps.toList→p<X.N:=fun p hp=>by have:=List.all_eq_true.1 hps p hp;simpa using this
 have key:∀(l D:Nat)(outer:Bool)(df:Nat)(mark:List Deferred)(W1:World),(Instr.enterLoop fn a.tmps ps assign body (Fr X.ro).round).run X.P w=.ok (l,mark) W1→w.heap.size≤l→(outer=true→w.heap.size≤D∧D≠l)→Keeps w (fun _=>False) W1→
  W1.heap[l]?=some (.loop {state:=.ready,pending:=none,fn:=fn,tmps:=a.tmps,params:=ps,assign:=assign,body:=body,defers:=df})→(outer=true→W1.heap[D]?=some (.deferred (some [])))→mark=(if outer=true then[{target:=.collected D,args:=#[]}]else[])→
  ∃(l:Nat)(mark:List Deferred)(w₁:World)(d:Deferred)(w₁':World)(f:FuncId)(args:Array Value)(w₂:World),
  (Instr.enterLoop fn a.tmps ps assign body (Fr X.ro).round).run X.P w=.ok (l,mark) w₁∧(resolve a.eval (rangeCall g l) 0).run X.P w₁=.ok d w₁'∧(∀f',Target.leads X.P w₁' d.target d.args=some f'→(Fr X.ro).fn f')∧
  (invoke d.target d.args).run X.P w₁'=.ok (.enter f args) w₂∧((Fr X.ro).depth.isSome=true→1≤0)∧CallsIn (Fr X.ro) (0-1) X.P f args w₂ (rangePost (Fr X.ro) 0 X.P l (pn X Q) {a with defers:=mark++a.defers}):=by
  intro l D outer df mark W1 he hl hD k1 hrec hdf hmark
  obtain⟨rc,hrc⟩:∃rc:LoopState→Option Code→Loop,rc=fun st pe=>{state:=st,pending:=pe,fn:=fn,tmps:=a.tmps,params:=ps,assign:=assign,body:=body,defers:=df}:=⟨_,rfl⟩
  have hDl:outer=true→D≠l:=fun ho=>(hD ho).2
  have hpn:∀i,i∈cU t→i∈X.pin++cU t:=fun i hi=>List.mem_append.2 (.inr hi)
  let O0:Nat→Prop:=fun b=>(∃i e,look i (SS v0)=some e∧Gv.blk γ i e b)∨b=l∨(outer=true∧b=D)
  let ρ:Res:=nz enc L SS I Ix (D:=D) (outer:=outer) (fn:=fn) (df:=df) (γe:=γ) (tmps:=a.tmps) s.size hps' hen hDl hfl hpn (round l)
  have hR0:=rW SS I Ix (rc:=rc) (pins:=X.pin++cU t) s hs h0 hl hD k1 (by rw[hrc];exact hrec) hdf
  have hcan:Can ρ ([],none) (L.map enc):=qa enc L SS I Ix s.size hps' hen hDl hfl hpn (round l) L [] rfl
  have hct:=hit ρ rfl rfl ([],none) hcan
  let γc:Ids:=upd γ 0 ⟨0,0,O0⟩
  have hblk:blks γc [(0,.res ρ ([],none))]=O0:=by
   funext b
   apply propext
   refine⟨fun⟨i,e,hi,hb⟩=>?_,fun hb=>⟨0,_,rfl,?_⟩⟩
   ·rw[ae]at hi
    split at hi
    ·next e'=>
     subst e'
     simp only[Option.some.injEq]at hi;subst hi
     simp only[blk,γc,ap]at hb;exact hb
    ·simp[look]at hi
   ·simp only[blk,γc,ap];exact hb
  have hz:=k1.size
  have hO0:∀b,O0 b→(∃i e,look i σ=some e∧Gv.blk γ i e b)∨w.heap.size≤b:=fun b hb=>by
   rcases hb with⟨i,e,hi,h⟩|rfl|⟨ho,rfl⟩
   ·exact .inl ⟨i,e,hs i e hi,h⟩
   ·exact .inr hl
   ·exact .inr (hD ho).1
  have hm:Mem W1 H (blks γc [(0,.res ρ ([],none))]) γc H [(0,.res ρ ([],none))] W1:=by
   rw[hblk]
   have one:∀j f,look j ([(0,Ent.res ρ ([],none))]:Sg)=some f→j=0∧f=.res ρ ([],none):=fun j f hj=>by
    rw[ae]at hj
    split at hj
    ·next e'=>exact⟨e',by simpa using hj.symm⟩
    ·simp[look]at hj
   have hH1:=xg s.mem.hok k1
   refine⟨Keeps.refl _ _,HLe.refl _,HNew.refl _ _ _,hH1,fun i e hi=>?_,fun i e hi b hb=>?_,fun i e hi b hb=>?_,fun i e j e' b hi hj hb hb'=>?_⟩
   ·obtain⟨rfl,rfl⟩:=one i e hi
    show ∃v γ',ROk SS I Ix l D outer _ _ γ t a.tmps ([],none) (γc 0).o H W1 v γ'
    refine⟨v0,γ,?_⟩
    rw[←hrc]
    simp only[γc,ap]
    exact hR0
   ·obtain⟨rfl,rfl⟩:=one i e hi
    simp only[blk,γc,ap]at hb
    rcases hO0 b hb with⟨i,e,hi,h⟩|h
    ·exact s.mem.free i e hi b h
    ·exact zr s.mem.hok h
   ·obtain⟨rfl,rfl⟩:=one i e hi
    simp only[blk,γc,ap]at hb
    exact .inr hb
   ·obtain⟨rfl,_⟩:=one i e hi;obtain⟨rfl,_⟩:=one j e' hj;rfl
  have hlam:Lam X.Λ W1 (blks γc [(0,.res ρ ([],none))]):=by
   rw[hblk]
   have h1:=s.lam.keep s.mem.keep (C:=fun b=>∃i e,look i σ=some e∧Gv.blk γ i e b) fun b ⟨i,e,hi,hb⟩=>(s.mem.fresh i e hi b hb).elim (fun h=>Nat.le_trans s.lam.2.1 h) (s.lam.2.2 b)
   refine⟨X.Λ.st h1.1 fun k hk=>k1.block k (Nat.lt_of_lt_of_le hk h1.2.1) (fun h=>h),Nat.le_trans h1.2.1 hz,fun b hb=>?_⟩
   rcases hO0 b hb with h|h
   ·exact h1.2.2 b h
   ·exact Nat.le_trans h1.2.1 h
  have hcall:=hct X.ro γc H W1 (.func (.yield l) #[] #[]::us) hlam hm (by simp[hul]) (fun j x u hx hu=>by
   cases j with
   |zero=>simp at hx hu;subst hx;subst hu;exact .d _ _ (.v _ rfl)
   |succ j=>exact(hur j x u (by simpa using hx) (by simpa using hu)).free (List.all_eq_true.1 hcap x (aQ (by simpa using hx))))
  refine⟨l,mark,W1,{target:=.fn (.func gf) us.toArray,args:=#[.func (.yield l) #[] #[]]},W1,gf,#[.func (.yield l) #[] #[]]++us.toArray,W1,he,?_,fun _ _=>trivial,?_,fun h=>by simp[Fr]at h,?_⟩
  ·simp only[resolve,hgv]
   simp[Deferred.ofValue,Act.eval]
  ·have:=hok (#[.func (.yield l) #[] #[]]++us.toArray) W1
   simpa[invoke]using this
  ·have hargs:(.func (.yield l) #[] #[]::us:List Value).toArray=#[.func (.yield l) #[] #[]]++us.toArray:=Array.toList_inj.1 (by simp)
   rw[hargs]at hcall
   refine hcall.mono ?_
   rintro e w3 ⟨vr,r,σ',γ',H',rfl,⟨b,s',hfeed,rfl⟩,_,_,_,hm3⟩
   rw[hblk]at hm3
   obtain⟨v',γ3,R⟩:∃v' γ3,ROk SS I Ix l D outer (fun st pe=>{state:=st,pending:=pe,fn:=fn,tmps:=a.tmps,params:=ps,assign:=assign,body:=body,defers:=df}) (X.pin++cU t) γ t a.tmps s' (γ' 0).o H' w3 v' γ3:=hm3.ent 0 _ rfl
   rw[←hrc]at R
   have hrec3:=R.rcd
   have hend:=run_endLoop (P:=X.P) hrec3 (by rw[hrc];cases s'.2<;>simp)
   have hst:=wR (X:=X) SS I Ix (W1:=W1) (mark:=mark) (O0:=O0) s hs (fun i hi=>List.mem_append.2 (.inl hi)) (fun b hb=>hb) hl hD hmark k1 hm3 R
   refine⟨_,_,hend,?_⟩
   rcases mu enc L SS I Ix s.size hps' hen hDl hfl hpn (round l) L [] b s' rfl hfeed with e|⟨q,c,e⟩
   ·subst e
    have hinv:I L v':=R.inv
    have:(rc .ready none).pending=none:=by rw[hrc]
    simp only[this]
    exact⟨γ3,H',t,SS v',hst _,done v' hinv⟩
   ·subst e
    have hinv:Ix c q v':=R.inv
    have:(rc .done (some c)).pending=some c:=by rw[hrc]
    simp only[this]
    exact aq _ _ _ _ (stop c q v' hinv) γ3 H' _ _ (hst _)
 cases hro:X.ro with
 |none=>
  have hr:(Fr X.ro).round=none:=by rw[hro];rfl
  refine hro▸key (w.heap.size+1) w.heap.size true w.heap.size [{target:=.collected w.heap.size,args:=#[]}] ((w.alloc (.deferred (some []))).alloc (.loop {state:=.ready,pending:=none,fn:=fn,tmps:=a.tmps,params:=ps,assign:=assign,body:=body,defers:=w.heap.size})) ?_ (by omega) (fun _=>⟨Nat.le_refl _,by omega⟩) ?_ ?_ (fun _=>?_) rfl
  ·rw[hr];exact run_enterLoop_outer _ _ _ _ _
  ·exact(fY w _).trans (fY _ _) (fun b h=>h.elim)
  ·have:=World.alloc_heap_new (w.alloc (.deferred (some []))) (.loop {state:=.ready,pending:=none,fn:=fn,tmps:=a.tmps,params:=ps,assign:=assign,body:=body,defers:=w.heap.size})
   rwa [World.size_alloc]at this
  ·rw[(fY _ _).block w.heap.size (by simp) (fun h=>h)];exact World.alloc_heap_new w _
 |some l0=>
  have hr:(Fr X.ro).round=some l0:=by rw[hro];rfl
  obtain⟨⟨r0,h1⟩,h2⟩:=s.round l0 hro
  have h3:=(s.mem.keep.block l0 (aF h1) h2).trans h1
  refine hro▸key w.heap.size 0 false r0.defers [] (w.alloc (.loop {state:=.ready,pending:=none,fn:=fn,tmps:=a.tmps,params:=ps,assign:=assign,body:=body,defers:=r0.defers})) ?_ (Nat.le_refl _) (fun h=>by cases h) (fY w _) (World.alloc_heap_new w _) (fun h=>by cases h) rfl
  rw[hr];exact run_enterLoop_inner h3 _ _ _ _ _
end
end Go.Gv
end
