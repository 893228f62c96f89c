/- For every input that the row allows, the law BoardPlays returns true and each argument reads afterwards as before; the library's tables that the row lists lie as the program's text lays them: the row, and its card (the tie given). -/
import Derived.Test.YtaojepfldokjdaaGreatDoorM1
import Derived.Test.YtaojepfldokjdaaGreatDoorM2
import Derived.Test.YtaojepfldokjdaaGreatDoorM3
import Derived.Test.YtaojepfldokjdaaGreatDoorM4
import Derived.Test.YtaojepfldokjdaaGreatDoorDShelf
import Derived.Test.YtaojepfldokjdaaGreatDoorM5
import Derived.Test.YtaojepfldokjdaaGreatDoorM6
import Derived.Test.YtaojepfldokjdaaGreatDoorM7
import Derived.Test.YtaojepfldokjdaaGreatDoorM8
import Derived.Test.YtaojepfldokjdaaGreatDoorM9
import Derived.Test.YtaojepfldokjdaaGreatDoorM10
import Derived.Test.YtaojepfldokjdaaGreatDoorRows
import Derived.Test.YtaojepfldokjdaaGreatDoorCards
import Derived.Test.YtaojepfldokjdaaGreatDoorTie
import Derived.SevenTiedAt
import Derived.WalkKit
import Derived.ProofKit
import Derived.OpenShut
import Derived.ChangeOld
import Derived.Below
import Derived.SizedLaws
import Derived.LaidLaws
import Derived.WideWitness
import Derived.Stop.Joined
import Derived.Stood8
import Derived.Lib.LaidIn
import Derived.Lib.LaidU8
import Derived.Deep.DeepHandedRow
import Derived.Deep.DeepWitnessRowRef
set_option linter.unusedVariables false
set_option linter.unusedSimpArgs false
namespace Go.Proofs.YtaojepfldokjdaaGreatDoor
open Go Go.ChangeShapes Go.WideShapes Go.ChangeAt Go.RowKit Go.Gv Go.Proofs.E
theorem boardPlays_own:ownKnob Tryz.prog.godebug=none:=by kernel_rfl
theorem boardPlays_laidOut:laidOutB Tryz.prog=true:=by kernel_rfl
def flatD {H:Type}:Nat→DataW H→List Value
 |0,_=>[]
 |_+1,.lit (.int k n)=>[.int k n]
 |n+1,.agg l=>l.flatMap (flatD n)
 |_+1,_=>[]
noncomputable def b6 (os:Os):World:=
 let w0:=World.holding Tryz.prog os ⟨#[],#[],[]⟩
 let put (h:Array Obj) (g:Nat) (cs:Array Value):Array Obj:=h.modify g fun
  |.cells _ t frozen=>.cells cs t frozen
  |o=>o
 {w0 with heap:=Rows.boardPlaysRow.laid.foldl (fun h x=>put h ((Tryz.prog.globalNamed x.1).getD 0) (flatD 4 x.2).toArray) w0.heap}
theorem boardPlays_met (os:Os)(args:Array Value):laidMet Tryz.prog Rows.boardPlaysRow.laid ((b6 os).forCall (fun _ _=>0) ⟨#[],args,[]⟩).memory:=
 (LaidIn.of_run (Rows.boardPlaysRow.laid.map fun x=>(Tryz.prog.globalNamed x.1).getD 0) 8 (by kernel_rfl) (by kernel_rfl) (by kernel_rfl) (by kernel_rfl)).met
noncomputable abbrev bU:OpenSpec:=OpenSpec.ofChange Rows.boardPlaysSpec
noncomputable def cM:Array Value:=#[.int .i64 0,.int .i64 0,.int .i64 0,.slice none 0 0]
theorem boardPlays_witness (os:Os){H:Type}(enc:TypeId×Value→H):
 bU.preRow enc Tryz.prog Tryz.f4 Rows.boardPlaysRow.domain false Rows.boardPlaysRow.laid ((b6 os).forCall (fun _ _=>0) ⟨#[],cM,[]⟩).memory cM:=by
 have hw:(DataW.whole enc Tryz.prog ((b6 os).forCall (fun _ _=>0) ⟨#[],cM,[]⟩).memory Tryz.f4.params.toList bU.vars false cM.toList 8).map (fun x=>(x.1,x.2.1))=
  some ([.lit (.int .i64 0),.lit (.int .i64 0),.lit (.int .i64 0),.nil],[]):=by kernel_rfl
 obtain⟨⟨x1,x2,x3⟩,hx,hx1⟩:=Option.map_eq_some_iff.1 hw
 simp only[Prod.mk.injEq]at hx1
 obtain⟨rfl,rfl⟩:=hx1
 exact OpenSpec.preRow_of_cond 8 hx (by kernel_rfl) (fun k hk=>by cases hk) (by kernel_rfl) (boardPlays_met os _)
theorem tabIs_of_reads {P:Program}{W:World}{name:String}{k:IntKind}{zs:List Int}{g:Nat}{t e:TypeId}{n:Nat}
 (hg:P.globalNamed name=some g)(hty:(P.globals[g]?).map (·.type)=some t)(ht:P.underlying t=some (.array n e))(he:P.underlying e=some (.int k))(hce:P.cellsOf e=1)(hct:P.cellsOf t=n)
 (h:Lib.VarReads P W name (Lib.tabData k zs)):Lib.TabIs P W name k zs:=by
 obtain⟨g',t',cs,fuel,p,hg',ht',hvar,hd⟩:=h
 obtain rfl:=Option.some.inj (hg.symm.trans hg')
 obtain rfl:=Option.some.inj (hty.symm.trans ht')
 unfold Lib.TabIs
 rw[hvar,←Lib.cells_of_tab ht he hce hct hd]
set_option maxRecDepth 100000 in
set_option maxHeartbeats 2000000 in
theorem boardPlays_lifted (os:Os)(started:os.Started)(H:Type)(enc:TypeId×Value→H)(F:Stop.Interp):
 ReturnsInHanded {} Tryz.checked os 4 .any (bU.preRow enc Tryz.prog Tryz.f4 Rows.boardPlaysRow.domain false Rows.boardPlaysRow.laid) ((bU.at F).post enc Tryz.prog Tryz.f4 false true false false):=by
 refine returnsInHanded_of_row (C:=Tryz.checked) (s:=bU) boardPlays_own started (by kernel_rfl) Tryz.func4
  (witness_row_atRef (enc:=enc) (C:=Tryz.checked) false (b6 os) cM rfl (by kernel_rfl) (by kernel_rfl) (by kernel_rfl) (boardPlays_witness os enc)) ?_
 intro W base args ds gs before hval0 hW hcnd0 _ hsz hL hS _
 clear hcnd0 hsz
 have hval:∀(j:Nat) t v,Tryz.f4.params[j]?=some t→args[j]?=some v→Value.okWide Tryz.prog W .any base t v:=hval0
 have hW':=hW
 obtain⟨p,q,hA0,hV0,rfl,_,_⟩:=hW
 have hA:DataW.TrodAll enc Tryz.prog W 0 (fun _=>true) true Tryz.f4.params.toList args.toList ds p:=hA0
 rw[Tryz.params4]at hA hval
 obtain⟨v0,vs0,d0,ds0,p0,q0,hargs,rfl,rfl,h0,r0⟩:=trodAll_cons hA
 obtain⟨v1,vs1,d1,ds1,p1,q1,rfl,rfl,rfl,h1,r1⟩:=trodAll_cons r0
 obtain⟨v2,vs2,d2,ds2,p2,q2,rfl,rfl,rfl,h2,r2⟩:=trodAll_cons r1
 obtain⟨v3,vs3,d3,ds3,p3,q3,rfl,rfl,rfl,h3,r3⟩:=trodAll_cons r2
 obtain⟨rfl,rfl,rfl⟩:=trodAll_nil r3
 obtain rfl:args=#[v0,v1,v2,v3]:=by cases args;simp_all
 obtain⟨rfl,rfl⟩:=trodVars_none hV0
 have lt0:∀x∈p0,x.block<W.heap.size:=by obtain⟨m,hm⟩:=h0;exact DataW.trod_lt m _ _ _ hm
 have lt1:∀x∈p1,x.block<W.heap.size:=by obtain⟨m,hm⟩:=h1;exact DataW.trod_lt m _ _ _ hm
 have lt2:∀x∈p2,x.block<W.heap.size:=by obtain⟨m,hm⟩:=h2;exact DataW.trod_lt m _ _ _ hm
 have lt3:∀x∈p3,x.block<W.heap.size:=by obtain⟨m,hm⟩:=h3;exact DataW.trod_lt m _ _ _ hm
 have o0:=hval 0 3 v0 rfl rfl
 have o1:=hval 1 3 v1 rfl rfl
 have o2:=hval 2 3 v2 rfl rfl
 have o3:=hval 3 22 v3 rfl rfl
 clear hA0 hV0 hval0 hval hA
 obtain⟨D0,ok0,e0⟩:=mO (.int .i64) (by kernel_rfl) o0 h0
 obtain⟨a0_0,rfl,w0_0⟩:=ok0
 obtain⟨D1,ok1,e1⟩:=mO (.int .i64) (by kernel_rfl) o1 h1
 obtain⟨a1_0,rfl,w1_0⟩:=ok1
 obtain⟨D2,ok2,e2⟩:=mO (.int .i64) (by kernel_rfl) o2 h2
 obtain⟨a2_0,rfl,w2_0⟩:=ok2
 obtain⟨D3,ok3,e3⟩:=mO (.sl (.st [(.int .u8),(.int .i64),(.int .i64),(.int .i64),(.st [(.int .i64),(.int .i64),(.int .i32),(.st [(.int .i64),(.st [(.int .i64),(.int .i64)]),(.st [(.int .i64),(.int .i64)]),(.int .i32)]),(.st [(.int .i64),(.int .i64)])]),(.int .i64),(.int .i64)])) (by kernel_rfl) o3 h3
 obtain⟨x3_0,rfl,hx3_0⟩:=ok3
 obtain⟨l3,rfl,q3⟩:=yB ED hx3_0
 have t1:Lib.TabIs Tryz.prog W "internal/strconv.uint64pow10" .u64 Lib.pow10Tab:=tabIs_of_reads (t:=427) (e:=384) (n:=20) Es (by kernel_rfl) (by kernel_rfl) (by kernel_rfl) (by kernel_rfl) (by kernel_rfl) (Lib.laidMet.reads hL (.tail _ (.tail _ (.head _))))
 have t2:Lib.TabIs Tryz.prog W "math/bits.deBruijn64tab" .u8 u9:=tabIs_of_reads (t:=435) (e:=5) (n:=64) gTz (by kernel_rfl) (by kernel_rfl) (by kernel_rfl) (by kernel_rfl) (by kernel_rfl) (Lib.laidMet.reads hL (.tail _ (.head _)))
 obtain⟨t3,t4⟩:=DL t1 t2 (Go.Proofs.cell_of_shapedOpen_int (zero:=#[.int .i64 0]) (t:=3) hS (of_decide_eq_true (by kernel_rfl)) (by kernel_rfl) rfl (by kernel_rfl) (by kernel_rfl) Tryz.underlying3)
 refine((ry a0_0 a1_0 a2_0 l3 q3).calls W t3 t4 [v0,v1,v2,v3] rfl (jF (e0 _) (jF (e1 _) (jF (e2 _) (jF (e3 _) z0))))).mono fun e W' ⟨he,bel⟩=>?_
 subst he
 have e1:(bU.at F).fn H ([d0,d1,d2,d3]++[])={results:=[.lit (.bool true)],args:=[d0,d1,d2,d3]}:=rfl
 refine⟨_,rfl,_,_,_,[],(List.append p0 (List.append p1 (List.append p2 (List.append p3 [])))),[],hW',?_,?_,?_,bel.frame _,fun h=>by cases h⟩
 ·rw[e1];exact trodAll_mk1 (shut_bool Tryz.underlying4 _)
 ·rw[e1]
  exact(trodAll_cons_mk (Below.trod boardPlays_laidOut (by kernel_rfl) (of_decide_eq_true (by kernel_rfl)) h0 bel lt0) (trodAll_cons_mk (Below.trod boardPlays_laidOut (by kernel_rfl) (of_decide_eq_true (by kernel_rfl)) h1 bel lt1) (trodAll_cons_mk (Below.trod boardPlays_laidOut (by kernel_rfl) (of_decide_eq_true (by kernel_rfl)) h2 bel lt2) (trodAll_cons_mk (Below.trod boardPlays_laidOut (by kernel_rfl) (of_decide_eq_true (by kernel_rfl)) h3 bel lt3) trodAll_mk0))))
 ·rw[e1];rfl
set_option maxRecDepth 100000 in
theorem boardPlays_jf0:(mapsRowed Tryz.prog)=true:=by kernel_rfl
set_option maxRecDepth 100000 in
theorem boardPlays_jf1:((Rows.boardPlaysRow.inPlace==Tryz.prog.inPlace 4))=true:=by kernel_rfl
set_option maxRecDepth 100000 in
theorem boardPlays_jf2:((Rows.boardPlaysRow.unfollowed==Tryz.prog.unfollowed 4))=true:=by kernel_rfl
set_option maxRecDepth 100000 in
theorem boardPlays_jf3:((Rows.boardPlaysRow.recurses==Tryz.prog.recurses 4))=true:=by kernel_rfl
set_option maxRecDepth 100000 in
theorem boardPlays_jf4:((Rows.boardPlaysRow.named==Tryz.prog.varsNamed 4))=true:=by kernel_rfl
set_option maxRecDepth 100000 in
theorem boardPlays_jf5:(Tryz.prog.stopsHeard)=true:=by kernel_rfl
set_option maxRecDepth 100000 in
theorem boardPlays_jf6:(Tryz.prog.mayEnter)=true:=by kernel_rfl
set_option maxRecDepth 100000 in
theorem boardPlays_jf7:((Rows.boardPlaysRow.plainKeys==Tryz.prog.plainKeys))=true:=by kernel_rfl
theorem boardPlays_closed:joinedFacts Tryz.prog 4 Tryz.f4 (OpenSpec.ofChange Rows.boardPlaysSpec).bare Rows.boardPlaysRow=true:=by
 simp only[joinedFacts,Bool.and_eq_true]
 repeat' (first|with_reducible exact boardPlays_laidOut|with_reducible exact boardPlays_jf0|with_reducible exact boardPlays_jf1|with_reducible exact boardPlays_jf2|with_reducible exact boardPlays_jf3|with_reducible exact boardPlays_jf4|with_reducible exact boardPlays_jf5|with_reducible exact boardPlays_jf6|with_reducible exact boardPlays_jf7|with_reducible apply And.intro|kernel_rfl)
theorem boardPlays_over:Rows.BoardPlaysSaid:=
 OpenClaim.holds_of_cond 4 Tryz.f4 rfl rfl rfl rfl rfl rfl rfl ⟨rfl,rfl,rfl,rfl,rfl⟩ rfl rfl rfl rfl rfl (by kernel_rfl) Tryz.func4 boardPlays_closed
  (of_decide_eq_true (by kernel_rfl)) (by unfold Func.isWrapper;first|(rw[if_pos (by decide+kernel)];kernel_rfl)|(rw[if_neg (by decide+kernel)];exact⟨rfl,rfl⟩))
  (fun os started H enc _ F0=>by rw[OpenClaim.pre_eq_preRow];exact boardPlays_lifted os started H enc F0)
theorem BoardPlays_holds:Rows.BoardPlaysCardSaid:=
 Claim7.holds_tied_plain_at .later [] Rows.boardPlaysCard.laidKinds true Rows.boardPlaysCard.stood.harness Rows.boardPlaysCard.stood.looks
  boardPlays_over (fun _ h=>by cases h) (by kernel_rfl) (fun _ h=>by cases h) boardPlays_row_tie rfl ⟨rfl,rfl⟩ (by kernel_rfl) rfl
  (fun f fn hf hfn=>by
   obtain rfl:f=4:=Option.some.inj ((show Tryz.prog.funcNamed Rows.boardPlaysRow.func=some 4 by kernel_rfl).symm.trans hf) |>.symm
   obtain rfl:fn=Tryz.f4:=(Option.some.inj (Tryz.func4.symm.trans hfn)).symm
   refine⟨by kernel_rfl,fun j t ht=>?_⟩
   rw[Tryz.params4]at ht
   rcases j with _|j
   ·obtain rfl:t=3:=by simpa using ht.symm
    exact(show Tryz.prog.wantsStandIn 3=false by kernel_rfl)
   rcases j with _|j
   ·obtain rfl:t=3:=by simpa using ht.symm
    exact(show Tryz.prog.wantsStandIn 3=false by kernel_rfl)
   rcases j with _|j
   ·obtain rfl:t=3:=by simpa using ht.symm
    exact(show Tryz.prog.wantsStandIn 3=false by kernel_rfl)
   rcases j with _|j
   ·obtain rfl:t=22:=by simpa using ht.symm
    exact(show Tryz.prog.wantsStandIn 22=false by kernel_rfl)
   ·simp at ht)
  (by kernel_rfl)
#print axioms BoardPlays_holds
end Go.Proofs.YtaojepfldokjdaaGreatDoor
