/- Laws that the claim's text stands on: part M10 of them. -/
import Derived.Test.YtaojepfldokjdaaGreatDoorM1
import Derived.Test.YtaojepfldokjdaaGreatDoorM2
import Derived.Test.YtaojepfldokjdaaGreatDoorM3
import Derived.Test.YtaojepfldokjdaaGreatDoorM4
import Derived.Test.YtaojepfldokjdaaGreatDoorDShelf
import Derived.Test.YtaojepfldokjdaaGreatDoorM5
import Derived.Test.YtaojepfldokjdaaGreatDoorM6
import Derived.Test.YtaojepfldokjdaaGreatDoorM7
import Derived.Test.YtaojepfldokjdaaGreatDoorM8
import Derived.Test.YtaojepfldokjdaaGreatDoorM9
set_option linter.unusedVariables false
set_option linter.unusedSimpArgs false
section
open Go Go.Gv
attribute [local irreducible] Go.Gv.WJ Go.Gv.OpJ Go.Gv.QJ Go.Gv.Spl Go.Gv.Req Go.Gv.IdxP Go.Gv.RegP Go.Gv.FinP Go.Gv.CellP Go.Gv.CellsP Go.Gv.ArrP Go.Gv.ArrsP Go.Gv.DropP Go.Gv.ByteP Go.Gv.StoreP
set_option maxRecDepth 100000
namespace Go.Proofs.E
attribute [local irreducible] elems LookP PutP
theorem Bi (b:BD)(t:Int)(p q:Int×Int):(b.did t [p]).did t [q]=b.did t [p,q]:=by
 unfold BD.did;simp[bG]
theorem DN {m:List (Int×RS)}{j:Nat}{k:Int}{x y:RS}(h:m[j]?=some (k,y)):([]++m.map sxD).set j (bI (sxD (k,y)) 1 [.v (.int .i64 x.e),.v (.int .i64 x.n),.v (.string ⟨⟨x.t⟩⟩)])=(m.set j (k,x)).map sxD:=by
 rw[List.nil_append,List.map_set];rfl
set_option maxHeartbeats 4000000 in
theorem CL (b:BD)(t k:Int)(x:RS)(ht:b.tr.length≤800000)(hn:(b.sl.getD []).length≤1000000)(hk0:0≤k)(hk1:k≤100000):Cv 38 [rbv b,iv t,iv k,rsv x] (rbv ((b.fill k x).did t [(1,100+k),(3,3000+k)])):=by
 have w1:=iB 100 k hk0 hk1 (by omega) (by omega)
 have w2:=iB 3000 k hk0 hk1 (by omega) (by omega)
 have hf:=oC b k hn
 have h1:=b9 (b.fill k x) t 1 (IntKind.i64.wrap (100+k)) (by show b.tr.length≤_;omega)
 have h2:=b9 ((b.fill k x).did t [(1,IntKind.i64.wrap (100+k))]) t 3 (IntKind.i64.wrap (3000+k)) (by show(b.tr++bG t _).length≤_;simp[bG];omega)
 rw[Bi]at h2
 cases hl:aO k (b.sl.getD [])with
 |some y=>
  obtain⟨j,hj,hjn⟩:=eI hl
  rw[ja hj hjn]at hf
  have hjl:=(List.getElem?_eq_some_iff.1 hj).1
  have hfill:(b.fill k x).sl.getD []=(b.sl.getD []).set j (k,x):=m7 hj hjn
  refine aD Tryz.f38 Tryz.func38 rfl rfl fun w H B g0=>?_
  (try refine WJ.cut ?_)
  (first|refine Sq.go ?_|refine af (Sq.go ?_)|skip)
  (try refine WJ.cut ?_)
  refine O.appF rfl rfl (.full _ _) rfl rfl rfl rfl (by show 0+((b.sl.getD []).map sxD).length≤_;rw[List.length_map];omega) (.inr rfl) ?_
  (first|refine Sq.go ?_|refine af (Sq.go ?_)|skip)
  (try refine WJ.cut ?_)
  refine aa hf (fun _ _=>rfl) rfl rfl rfl ?_
  (first|refine Sq.go ?_|refine af (Sq.go ?_)|skip)
  (try refine WJ.cut ?_)
  (repeat (first|refine Spl.t rfl ?_|refine Spl.f rfl ?_))
  (first|refine Sq.go ?_|refine af (Sq.go ?_)|skip)
  (try refine WJ.cut ?_)
  refine Req.of ⟨by omega,by show(j:Int)<((0+((b.sl.getD []).map sxD).length:Nat):Int);rw[List.length_map];omega⟩ ?_
  refine StoreP.of j 1 (sxD (k,y)) (by show(j:Int).toNat*4+1=j*4+1;omega) (by show([]++(b.sl.getD []).map sxD)[j]?=_;rw[List.nil_append,List.getElem?_map,hj];rfl) (Nat.le_of_ble_eq_true rfl) rfl ?_
  (repeat (first|refine Spl.t rfl ?_|refine Spl.f rfl ?_))
  (first|refine Sq.go ?_|refine af (Sq.go ?_)|skip)
  (try refine WJ.cut ?_)
  (first|refine Sq.go ?_|refine af (Sq.go ?_)|skip)
  refine WJ.shift (b8 14 4 9 (k:=4) (n:=0+((b.sl.getD []).map sxD).length) (xs:=((b.sl.getD []).set j (k,x)).map sxD) (congrArg (fun z=>some (Ent.arr 4 z)) (DN hj)) rfl rfl (by simp) (by rw[List.length_map];omega)) ?_
  have e:(((b.sl.getD []).set j (k,x)).map sxD).take (0+((b.sl.getD []).map sxD).length)=((b.fill k x).sl.getD []).map sxD:=by
   rw[hfill,List.take_of_length_le (by simp)]
  rw[e]
  (try refine aq _ _ _ _ ?_)
  (repeat (first|refine Spl.t rfl ?_|refine Spl.f rfl ?_))
  refine aa h1 (fun _ _=>rfl) rfl rfl rfl ?_
  (repeat (first|refine Spl.t rfl ?_|refine Spl.f rfl ?_))
  refine aa h2 (fun _ _=>rfl) rfl rfl rfl ?_
  (repeat (first|refine Spl.t rfl ?_|refine Spl.f rfl ?_))
  refine FinP.open rfl ?_
  (rw[w1,w2];first|done|rfl)
 |none=>
  rw[iZ (eH hl)]at hf
  have hfill:(b.fill k x).sl.getD []=b.sl.getD []++[(k,x)]:=m6 (eH hl)
  refine aD Tryz.f38 Tryz.func38 rfl rfl fun w H B g0=>?_
  (try refine WJ.cut ?_)
  (first|refine Sq.go ?_|refine af (Sq.go ?_)|skip)
  (try refine WJ.cut ?_)
  refine O.appF rfl rfl (.full _ _) rfl rfl rfl rfl (by show 0+((b.sl.getD []).map sxD).length≤_;rw[List.length_map];omega) (.inr rfl) ?_
  (first|refine Sq.go ?_|refine af (Sq.go ?_)|skip)
  (try refine WJ.cut ?_)
  refine aa hf (fun _ _=>rfl) rfl rfl rfl ?_
  (first|refine Sq.go ?_|refine af (Sq.go ?_)|skip)
  (try refine WJ.cut ?_)
  (repeat (first|refine Spl.t rfl ?_|refine Spl.f rfl ?_))
  (first|refine Sq.go ?_|refine af (Sq.go ?_)|skip)
  (try refine WJ.cut ?_)
  refine Req.of ⟨by rw[List.length_append],by show 0+((b.sl.getD []).map sxD).length+1≤_;rw[List.length_map];omega⟩ ?_
  (repeat (first|refine Spl.t rfl ?_|refine Spl.f rfl ?_))
  (first|refine Sq.go ?_|refine af (Sq.go ?_)|skip)
  (try refine WJ.cut ?_)
  (first|refine Sq.go ?_|refine af (Sq.go ?_)|skip)
  refine WJ.shift (b8 14 4 9 (k:=4) (n:=0+((b.sl.getD []).map sxD).length+1) (xs:=[]++(b.sl.getD []).map sxD++[sxD (k,x)]) rfl rfl rfl (by simp) (by rw[List.length_map];omega)) ?_
  have e:([]++(b.sl.getD []).map sxD++[sxD (k,x)]).take (0+((b.sl.getD []).map sxD).length+1)=((b.fill k x).sl.getD []).map sxD:=by
   rw[hfill,List.take_of_length_le (by simp)];simp
  rw[e]
  (try refine aq _ _ _ _ ?_)
  (repeat (first|refine Spl.t rfl ?_|refine Spl.f rfl ?_))
  refine aa h1 (fun _ _=>rfl) rfl rfl rfl ?_
  (repeat (first|refine Spl.t rfl ?_|refine Spl.f rfl ?_))
  refine aa h2 (fun _ _=>rfl) rfl rfl rfl ?_
  (repeat (first|refine Spl.t rfl ?_|refine Spl.f rfl ?_))
  refine FinP.open rfl ?_
  (rw[w1,w2];first|done|rfl)
theorem xS (b:BD)(t k:Int)(ht:b.tr.length≤800000)(hn:(b.sl.getD []).length≤1000000)(hk0:0≤k)(hk1:k≤100000):Cv 86 [rbv b,iv t,iv k] (.tup [rbv (b.did t [(2,3000+k)]),bv (b.slot k).isSome]):=by
 have w2:=iB 3000 k hk0 hk1 (by omega) (by omega)
 have hf:=oC b k hn
 have h1:=b9 b t 2 (IntKind.i64.wrap (3000+k)) (by omega)
 have he:decide (0≤kW k (b.sl.getD []))=(b.slot k).isSome:=by
  unfold BD.slot
  cases hl:aO k (b.sl.getD [])with
  |some y=>
   obtain⟨j,hj,hjn⟩:=eI hl
   rw[ja hj hjn]
   exact decide_eq_true (by omega)
  |none=>rw[iZ (eH hl)];rfl
 rw[←he]
 refine ab Tryz.f86 Tryz.func86 rfl rfl fun w H B g0=>?_
 refine RegP.mixE 0 11 [6] rfl (by decide+kernel) ?_
 refine QuietP.of (QJ.call h1 (fun _ _=>rfl) rfl rfl) ?_
 refine QuietP.of (QJ.call hf (fun _ _=>rfl) rfl rfl) ?_
 (repeat (first|refine Spl.t rfl ?_|refine Spl.f rfl ?_))
 refine FinP.open rfl ?_
 (rw[w2];first|done|rfl)
set_option maxHeartbeats 4000000 in
theorem As (b:BD)(t k:Int)(ht:b.tr.length≤800000)(hn:(b.sl.getD []).length≤1000000)(hk0:0≤k)(hk1:k≤100000):Cv 87 [rbv b,iv t,iv k] (.tup [rbv (b.did t [(0,100+k)]),rsv ((b.slot k).getD RS0)]):=by
 have w2:=iB 100 k hk0 hk1 (by omega) (by omega)
 have hf:=oC b k hn
 have h1:=b9 b t 0 (IntKind.i64.wrap (100+k)) (by omega)
 have hs:b.slot k=aO k (b.sl.getD []):=rfl
 rw[hs]
 cases hl:aO k (b.sl.getD [])with
 |some y=>
  obtain⟨j,hj,hjn⟩:=eI hl
  rw[ja hj hjn]at hf
  refine ab Tryz.f87 Tryz.func87 rfl rfl fun w H B g0=>?_
  refine aa hf (fun _ _=>rfl) rfl rfl rfl ?_
  (repeat (first|refine Spl.t rfl ?_|refine Spl.f rfl ?_))
  refine IdxP.of (sxD (k,y)) (by omega) (by rw[Int.toNat_natCast,List.getElem?_map,hj];rfl) ?_
  (repeat (first|refine Spl.t rfl ?_|refine Spl.f rfl ?_))
  refine RegP.mixE 0 8 [6,7] rfl (by decide+kernel) ?_
  refine QuietP.of (QJ.call h1 (fun _ _=>rfl) rfl rfl) ?_
  (repeat (first|refine Spl.t rfl ?_|refine Spl.f rfl ?_))
  refine FinP.open rfl ?_
  (rw[w2];first|done|rfl)
 |none=>
  rw[iZ (eH hl)]at hf
  refine ab Tryz.f87 Tryz.func87 rfl rfl fun w H B g0=>?_
  refine aa hf (fun _ _=>rfl) rfl rfl rfl ?_
  (repeat (first|refine Spl.t rfl ?_|refine Spl.f rfl ?_))
  refine RegP.mixE 0 8 [6,7] rfl (by decide+kernel) ?_
  refine QuietP.of (QJ.call h1 (fun _ _=>rfl) rfl rfl) ?_
  (repeat (first|refine Spl.t rfl ?_|refine Spl.f rfl ?_))
  refine FinP.open rfl ?_
  (rw[w2];first|done|rfl)
end Go.Proofs.E
namespace Go.Proofs.E
attribute [local irreducible] elems LookP PutP
set_option maxHeartbeats 4000000 in
theorem Aq (site room:Int)(n:Nat)(hn:n≤1000):Cv 25 [iv site,iv n,iv room] (rbv (nM site n room)):=by
 refine aD Tryz.f25 Tryz.func25 rfl rfl fun w H B g0=>?_
 (try refine WJ.cut ?_)
 (first|refine Sq.go ?_|refine af (Sq.go ?_)|skip)
 (try refine WJ.cut ?_)
 (first|refine Sq.go ?_|refine af (Sq.go ?_)|skip)
 (try refine WJ.cut ?_)
 (first|refine Sq.go ?_|refine af (Sq.go ?_)|skip)
 (try refine WJ.cut ?_)
 refine WJ.shift (ke 945 7 0 3 rfl rfl rfl) ?_
 refine ax (V:=Nat) (fun i=>[(8,iv i)]) (fun i=>[(7,.cells [.arr 945 3 i,iv room,iv 0,bv false,bv false,iv site,sh,sh,bv false,sh,sh]),(945,.arr 3 (List.replicate i mJ))]) [7,945] (fun i=>n-i) (fun i=>i≤n) 0 (Nat.zero_le _) (by repeat' (first|exact trivial|exact rfl|refine And.intro ?_ ?_)) (by repeat' (first|exact trivial|exact rfl|refine And.intro ?_ ?_)) ?_
 intro i hi
 refine Spl.of (fun h1=>?_) (fun h1=>?_)
 ·have hlt:i<n:=by have:=of_decide_eq_true h1;omega
  (repeat (first|refine Spl.t rfl ?_|refine Spl.f rfl ?_))
  refine Req.of ⟨by simp,?_⟩ ?_
  ·show i+1≤1000000000;omega
  refine⟨i+1,by omega,by omega,⟨ao (ah _ (by omega) (by omega)),trivial⟩,(by repeat' (first|exact trivial|exact rfl|refine And.intro ?_ ?_)),⟨rfl,?_,trivial⟩,(by repeat' (first|exact trivial|exact rfl|refine And.intro ?_ ?_))⟩
  refine congrArg (fun x=>some (Ent.arr 3 x)) ?_
  rw[List.replicate_succ'];rfl
 ·have h1:=of_decide_eq_false h1
  obtain rfl:i=n:=by omega
  (repeat (first|refine Spl.t rfl ?_|refine Spl.f rfl ?_))
  (first|refine Sq.go ?_|refine af (Sq.go ?_)|skip)
  refine WJ.shift (b8 945 7 0 (k:=3) (n:=i) (xs:=List.replicate i mJ) rfl rfl rfl (by simp) (by omega)) ?_
  have e:(List.replicate i mJ).take i=List.replicate i mJ:=List.take_of_length_le (by simp)
  rw[e]
  refine WJ.shift (aH 7 0 rfl rfl fun _ _ _ h=>rV i h) ?_
  refine WJ.shift (aH 7 6 rfl rfl fun _ _ _ h=>ar 6 h) ?_
  refine WJ.shift (aH 7 7 rfl rfl fun _ _ _ h=>ar 6 h) ?_
  refine WJ.shift (aH 7 9 rfl rfl fun _ _ _ h=>ar 4 h) ?_
  refine WJ.shift (aH 7 10 rfl rfl fun _ _ _ h=>ar 3 h) ?_
  (try refine aq _ _ _ _ ?_)
  (repeat (first|refine Spl.t rfl ?_|refine Spl.f rfl ?_))
  exact FinP.open rfl rfl
theorem Gz (a b:TA):eqT Tryz.prog 4 181 [.int .i64 a.t,.int .i64 a.k,.int .i64 a.loc] [.int .i64 b.t,.int .i64 b.k,.int .i64 b.loc]=some (decide (a=b)):=by
 show some (decide (a.t=b.t)&&(decide (a.k=b.k)&&(decide (a.loc=b.loc)&&true)))=_
 obtain⟨a0,a1,a2⟩:=a
 obtain⟨b0,b1,b2⟩:=b
 congr 1
 rw[Bool.eq_iff_iff]
 simp
theorem B9:j7 Tryz.prog 4 181=true:=by kernel_rfl
theorem Eu:Tryz.prog.eqGuardType Tryz.prog.depth 181=false:=by kernel_rfl
abbrev qeV (e:QE):List Value:=[.int .i64 e.tk,.int .i64 e.slot,.int .i64 e.c.k,.int .i64 e.c.at_,.int .i32 e.c.ch,.int .i64 e.c.o.k,.int .i64 e.c.o.i.c,.int .i64 e.c.o.i.s,.int .i64 e.c.o.a.c,.int .i64 e.c.o.a.s,.int .i32 e.c.o.ch,.int .i64 e.c.a.c,.int .i64 e.c.a.s]
theorem vK:j7 Tryz.prog 8 128=true:=by kernel_rfl
theorem zF:Tryz.prog.eqGuardType Tryz.prog.depth 128=false:=by kernel_rfl
theorem FZ (e:QE):eqT Tryz.prog 8 128 (qeV e) (qeV e)=some true:=by
 conv=>lhs;whnf
 simp
end Go.Proofs.E
namespace Go.Proofs.E
attribute [local irreducible] elems LookP PutP
set_option maxHeartbeats 8000000 in
theorem Fs (b:BD)(hst:b.st.length≤8)(ht:b.tr.length≤800000)(hq:∀(s:Nat)(x:ST),b.st[s]?=some x→x.q.length≤1000000):Cv 26 [bdv b,rbv b] (bv true):=by
 have hS:=xN b
 refine ab Tryz.f26 Tryz.func26 rfl rfl fun w H B g0=>?_
 refine aa (Cz b (by omega)) (fun _ _=>rfl) rfl rfl rfl ?_
 refine aa (Gj b.tr (by omega)) (fun _ _=>rfl) rfl rfl rfl ?_
 (repeat (first|refine Spl.t rfl ?_|refine Spl.f rfl ?_))
 refine RegP.of rfl (by decide+kernel) ?_
 refine QuietP.of (QJ.call hS (fun _ _=>rfl) rfl rfl) ?_
 refine Spl.f (by simp) ?_
 (repeat (first|refine Spl.t rfl ?_|refine Spl.f rfl ?_))
 refine Spl.f (by simp) ?_
 (repeat (first|refine Spl.t rfl ?_|refine Spl.f rfl ?_))
 refine ax (V:=Nat) (fun i=>[(30,iv i)]) (fun _=>[]) [] (fun i=>b.tr.length-i) (fun i=>i≤b.tr.length) 0 (Nat.zero_le _) (by repeat' (first|exact trivial|exact rfl|refine And.intro ?_ ?_)) (by repeat' (first|exact trivial|exact rfl|refine And.intro ?_ ?_)) ?_
 intro i hi
 refine Spl.of (fun h1=>?_) (fun h1=>?_)
 ·have hlt:i<b.tr.length:=by have:=of_decide_eq_true h1;simp at this;omega
  have hx:=jz hlt
  generalize b.tr.getD i AC0=a at hx
  (repeat (first|refine Spl.t rfl ?_|refine Spl.f rfl ?_))
  refine RegP.of rfl (by decide+kernel) ?_
  refine IdxP.of (taD a) (by omega) (by rw[Int.toNat_natCast];exact hx) ?_
  refine IdxP.of (taD a) (by omega) (by rw[Int.toNat_natCast];exact hx) ?_
  refine QuietP.of (we 4 rfl rfl rfl rfl rfl B9 Eu (Gz a a)) ?_
  refine Spl.f (by simp) ?_
  (repeat (first|refine Spl.t rfl ?_|refine Spl.f rfl ?_))
  exact⟨i+1,by omega,by omega,⟨ao (ah _ (by omega) (by omega)),trivial⟩,(by repeat' (first|exact trivial|exact rfl|refine And.intro ?_ ?_)),(by repeat' (first|exact trivial|exact rfl|refine And.intro ?_ ?_)),(by repeat' (first|exact trivial|exact rfl|refine And.intro ?_ ?_))⟩
 ·(repeat (first|refine Spl.t rfl ?_|refine Spl.f rfl ?_))
  refine ax (V:=Nat) (fun s=>[(47,iv s)]) (fun _=>[]) [] (fun s=>b.st.length-s) (fun s=>s≤b.st.length) 0 (Nat.zero_le _) (by repeat' (first|exact trivial|exact rfl|refine And.intro ?_ ?_)) (by repeat' (first|exact trivial|exact rfl|refine And.intro ?_ ?_)) ?_
  intro s hs
  refine Spl.of (fun h2=>?_) (fun h2=>?_)
  ·have hlt:s<b.st.length:=by have:=of_decide_eq_true h2;simp at this;omega
   obtain⟨x,hx⟩:∃x,b.st[s]?=some x:=⟨_,List.getElem?_eq_getElem hlt⟩
   have hho:=tG b s
   rw[zm hx]at hho
   have hql:=hq s x hx
   (repeat (first|refine Spl.t rfl ?_|refine Spl.f rfl ?_))
   refine IdxP.of (stD x) (by omega) (by rw[Int.toNat_natCast];exact bH hx) ?_
   (repeat (first|refine Spl.t rfl ?_|refine Spl.f rfl ?_))
   refine aa (CM b s hx hql) (fun _ _=>rfl) rfl rfl rfl ?_
   (repeat (first|refine Spl.t rfl ?_|refine Spl.f rfl ?_))
   refine RegP.of rfl (by decide+kernel) ?_
   refine QuietP.of (QJ.call hho (fun _ _=>rfl) rfl rfl) ?_
   refine Spl.f (by simp) ?_
   (repeat (first|refine Spl.t rfl ?_|refine Spl.f rfl ?_))
   refine Spl.f (by simp) ?_
   (repeat (first|refine Spl.t rfl ?_|refine Spl.f rfl ?_))
   refine ax (V:=Nat) (fun j=>[(71,iv j)]) (fun _=>[]) [] (fun j=>x.q.length-j) (fun j=>j≤x.q.length) 0 (Nat.zero_le _) (by repeat' (first|exact trivial|exact rfl|refine And.intro ?_ ?_)) (by repeat' (first|exact trivial|exact rfl|refine And.intro ?_ ?_)) ?_
   intro j hj
   refine Spl.of (fun h3=>?_) (fun h3=>?_)
   ·have hjl:j<x.q.length:=by have:=of_decide_eq_true h3;simp at this;omega
    obtain⟨e,he⟩:∃e,x.q[j]?=some e:=⟨_,List.getElem?_eq_getElem hjl⟩
    have hge:(x.q.map qeD)[j]?=some (qeD e):=by rw[List.getElem?_map,he];rfl
    (repeat (first|refine Spl.t rfl ?_|refine Spl.f rfl ?_))
    refine RegP.of rfl (by decide+kernel) ?_
    refine IdxP.of (qeD e) (by omega) (by rw[Int.toNat_natCast];exact hge) ?_
    refine QuietP.of (QJ.call (vN e) (fun _ _=>rfl) rfl rfl) ?_
    refine IdxP.of (qeD e) (by omega) (by rw[Int.toNat_natCast];exact hge) ?_
    refine QuietP.of (we 8 rfl rfl rfl rfl rfl vK zF (FZ e)) ?_
    (repeat (first|refine Spl.t rfl ?_|refine Spl.f rfl ?_))
    exact⟨j+1,by omega,by omega,⟨ao (ah _ (by omega) (by omega)),trivial⟩,(by repeat' (first|exact trivial|exact rfl|refine And.intro ?_ ?_)),(by repeat' (first|exact trivial|exact rfl|refine And.intro ?_ ?_)),(by repeat' (first|exact trivial|exact rfl|refine And.intro ?_ ?_))⟩
   ·(repeat (first|refine Spl.t rfl ?_|refine Spl.f rfl ?_))
    exact⟨s+1,by omega,by omega,⟨ao (ah _ (by omega) (by omega)),trivial⟩,(by repeat' (first|exact trivial|exact rfl|refine And.intro ?_ ?_)),(by repeat' (first|exact trivial|exact rfl|refine And.intro ?_ ?_)),(by repeat' (first|exact trivial|exact rfl|refine And.intro ?_ ?_))⟩
  ·(repeat (first|refine Spl.t rfl ?_|refine Spl.f rfl ?_))
   exact FinP.open rfl rfl
end Go.Proofs.E
namespace Go.Proofs.E
attribute [local irreducible] elems LookP PutP
set_option maxHeartbeats 4000000 in
theorem CF (b:BD)(t:Int)(s:Nat)(k:Int)(c:CALL){x:ST}(hx:b.st[s]?=some x)(hl:b.st.length≤8)(ht:b.tr.length≤800000)(hq:x.q.length≤1000000)(hk0:0≤b.tk)(hk1:b.tk≤1000000):
 Cv 75 [rbv b,iv t,iv s,iv k,iG c] (if x.sealed=true then .tup [rbv (b.did t [(0,(s:Int))]),iv 9]else if (x.q.length:Int)=b.room then .tup [rbv (b.did t [(0,(s:Int))]),iv 8]else
  .tup [rbv (({b.did t [(0,(s:Int))]with tk:=b.tk+1}.setS s {x with q:=x.q++[QE.mk b.tk k c]}).did t [(2,2000),(3,2000),(1,(s:Int))]),iv 0]):=by
 obtain⟨xh,xq,xs⟩:=x
 simp only at hq ⊢
 have hs:=(List.getElem?_eq_some_iff.1 hx).1
 have hd1:=b9 b t 0 s (by omega)
 have hw:IntKind.i64.wrap (b.tk+1)=b.tk+1:=ah _ (by omega) (by omega)
 have hwi:=o5 {b.did t [(0,(s:Int))]with tk:=IntKind.i64.wrap (b.tk+1)} s ⟨xh,xq++[QE.mk b.tk k c],xs⟩ hs (by show b.st.length≤_;omega)
 generalize hB:{b.did t [(0,(s:Int))]with tk:=IntKind.i64.wrap (b.tk+1)}.setS s ⟨xh,xq++[QE.mk b.tk k c],xs⟩=B at hwi
 have hBt:B.tr.length≤800001:=by rw[←hB];show(b.tr++bG t _).length≤_;simp[bG];omega
 have h2:=b9 B t 2 2000 (by omega)
 have h3:=b9 (B.did t [(2,2000)]) t 3 2000 (by show(B.tr++bG t _).length≤_;simp[bG];omega)
 have h4:=b9 ((B.did t [(2,2000)]).did t [(3,2000)]) t 1 s (by show((B.tr++bG t _)++bG t _).length≤_;simp[bG];omega)
 have e4:((B.did t [(2,2000)]).did t [(3,2000)]).did t [(1,(s:Int))]=B.did t [(2,2000),(3,2000),(1,(s:Int))]:=by unfold BD.did;simp[bG]
 rw[e4]at h4
 have e:([]++xq.map qeD++[qeD (QE.mk b.tk k c)]).take (0+(xq.map qeD).length+1)=(xq++[QE.mk b.tk k c]).map qeD:=by
  rw[List.take_of_length_le (by simp)];simp
 refine aD Tryz.f75 Tryz.func75 rfl rfl fun w H B g0=>?_
 (try refine WJ.cut ?_)
 (first|refine Sq.go ?_|refine af (Sq.go ?_)|skip)
 (try refine WJ.cut ?_)
 refine aa hd1 (fun _ _=>rfl) rfl rfl rfl ?_
 (first|refine Sq.go ?_|refine af (Sq.go ?_)|skip)
 (try refine WJ.cut ?_)
 refine IdxP.of (stD ⟨xh,xq,xs⟩) (by omega) (by rw[Int.toNat_natCast];exact bH hx) ?_
 (first|refine Sq.go ?_|refine af (Sq.go ?_)|skip)
 (try refine WJ.cut ?_)
 refine Spl.of (fun g1=>?_) (fun g1=>?_)
 ·have g1:xs=true:=g1
  rw[if_pos g1]
  (repeat (first|refine Spl.t rfl ?_|refine Spl.f rfl ?_))
  refine .out (by simp) ?_
  exact FinP.open rfl rfl
 have g1:xs=false:=g1
 rw[if_neg (by rw[g1];simp)]
 (repeat (first|refine Spl.t rfl ?_|refine Spl.f rfl ?_))
 (first|refine Sq.go ?_|refine af (Sq.go ?_)|skip)
 (try refine WJ.cut ?_)
 refine Spl.of (fun g2=>?_) (fun g2=>?_)
 ·have g2:((xq.map qeD).length:Int)=b.room:=of_decide_eq_true g2
  rw[List.length_map]at g2
  rw[if_pos g2]
  (repeat (first|refine Spl.t rfl ?_|refine Spl.f rfl ?_))
  refine .out (by simp) ?_
  exact FinP.open rfl rfl
 have g2:¬((xq.map qeD).length:Int)=b.room:=of_decide_eq_false g2
 rw[List.length_map]at g2
 rw[if_neg g2]
 (repeat (first|refine Spl.t rfl ?_|refine Spl.f rfl ?_))
 (first|refine Sq.go ?_|refine af (Sq.go ?_)|skip)
 (try refine WJ.cut ?_)
 refine RegP.mixE 0 10 [] rfl (by decide+kernel) ?_
 refine QuietP.born (Go.Gv.B.appF (i:=35) rfl (.full _ _) (FlatQ.data rfl rfl) rfl (by show 0+(xq.map qeD).length≤_;rw[List.length_map];omega) (.inr rfl)) ?_
 (repeat' (first|exact trivial|refine And.intro ?_ ?_))
 refine Req.of ⟨by rw[List.length_append],by show 0+(xq.map qeD).length+1≤_;rw[List.length_map];omega⟩ ?_
 (repeat' (first|exact trivial|refine And.intro ?_ ?_))
 (first|refine Sq.go ?_|refine af (Sq.go ?_)|skip)
 refine WJ.shift (b8 35 12 1 (cs:=[iv xh,.arr 35 13 (0+(xq.map qeD).length+1),bv xs]) (k:=13) (n:=0+(xq.map qeD).length+1) (xs:=[]++xq.map qeD++[qeD (QE.mk b.tk k c)]) rfl rfl rfl (by simp) (by rw[List.length_map];omega)) ?_
 rw[e]
 (try refine WJ.cut ?_)
 (first|refine Sq.go ?_|refine af (Sq.go ?_)|skip)
 (try refine aq _ _ _ _ ?_)
 refine aa hwi (fun _ _=>rfl) rfl rfl rfl ?_
 (repeat (first|refine Spl.t rfl ?_|refine Spl.f rfl ?_))
 refine aa h2 (fun _ _=>rfl) rfl rfl rfl ?_
 (repeat (first|refine Spl.t rfl ?_|refine Spl.f rfl ?_))
 refine aa h3 (fun _ _=>rfl) rfl rfl rfl ?_
 (repeat (first|refine Spl.t rfl ?_|refine Spl.f rfl ?_))
 refine aa h4 (fun _ _=>rfl) rfl rfl rfl ?_
 (repeat (first|refine Spl.t rfl ?_|refine Spl.f rfl ?_))
 refine FinP.open rfl ?_
 subst hB
 (rw[hw];first|done|rfl)
end Go.Proofs.E
namespace Go.Proofs.E
attribute [local irreducible] elems LookP PutP
def ST0:ST:=⟨-1,[],false⟩
def BD.at (b:BD)(s:Nat):ST:=b.st.getD s ST0
theorem F7 {b:BD}{s:Nat}(h:s<b.st.length):b.st[s]?=some (b.at s):=by
 unfold BD.at
 rw[List.getD_eq_getElem?_getD,List.getElem?_eq_getElem h];rfl
def iD (b:BD)(t:Int)(s:Nat):BD×Bool:=if (b.at s).h=-1 then((b.setS s {b.at s with h:=t}).did t [(2,1000+(s:Int))],true)else(b,false)
def g8 (b:BD)(t:Int)(s:Nat):BD:=(b.setS s {b.at s with h:=-1}).did t [(3,1000+(s:Int))]
def nw (b:BD)(t:Int)(s:Nat):BD:=(b.setS s {b.at s with sealed:=true}).did t [(1,(s:Int))]
def jc (b:BD)(t:Int)(s:Nat):BD×Bool:=(b.did t [(0,(s:Int))],(b.at s).sealed&&decide ((b.at s).q.length=0))
def iC (b:BD)(t:Int)(s:Nat)(k:Int)(c:CALL):BD×Int:=
 if (b.at s).sealed=true then(b.did t [(0,(s:Int))],9)else if b.room≤(b.at s).q.length then(b.did t [(0,(s:Int))],8)else
  (({b.did t [(0,(s:Int))]with tk:=b.tk+1}.setS s {b.at s with q:=(b.at s).q++[QE.mk b.tk k c]}).did t [(2,2000),(3,2000),(1,(s:Int))],0)
def kF (b:BD)(t:Int)(s:Nat)(tk:Int):BD×QE×Bool:=match qG (b.at s) tk with
 |none=>(b.did t [(0,(s:Int))],QE0,false)
 |some (e,r)=>(((b.did t [(0,(s:Int))]).setS s {b.at s with q:=r}).did t [(1,(s:Int))],e,true)
def qx (b:BD)(t:Int):BD:={b with up:=true}.did t [(2,2001),(3,2001)]
def wT (b:BD)(t site:Int)(v:VS)(cl:Bool):BD:={b with site:=site,v:=v,cl:=cl}.did t [(3,2002)]
def vG (b:BD)(t k:Int)(x:RS):BD:=(b.fill k x).did t [(1,100+k),(3,3000+k)]
def qM (b:BD)(t:Int):BD:={b with gone:=true}.did t [(3,2003)]
structure BW (n i:Nat)(b:BD):Prop where
 ln:b.st.length=n
 n8:n≤8
 r1:b.room≤16
 tl:b.tr.length≤10*i
 t0:0≤b.tk
 t1:b.tk≤i
 q:∀(s:Nat)(x:ST),b.st[s]?=some x→(x.q.length:Int)≤b.room∧(x.h=-1∨0≤x.h)
 sl:(b.sl.getD []).length≤i
 ok:okV ⟨b.v.s,b.v.l,b.v.R,[]⟩
theorem BW.to {n i:Nat}{b b':BD}(h:BW n i b)(hl:b'.st.length=b.st.length)(hr:b'.room=b.room)(ht:b'.tr.length≤b.tr.length+10)(hk:b.tk≤b'.tk∧b'.tk≤b.tk+1)
 (hq:∀(s:Nat)(x:ST),b'.st[s]?=some x→(x.q.length:Int)≤b.room∧(x.h=-1∨0≤x.h))(hs:(b'.sl.getD []).length≤(b.sl.getD []).length+1)(hv:okV ⟨b'.v.s,b'.v.l,b'.v.R,[]⟩):BW n (i+1) b':=by
 have a1:=h.tl
 have a2:=h.t0
 have a3:=h.t1
 have a4:=h.sl
 exact⟨hl.trans h.ln,h.n8,by rw[hr];exact h.r1,by omega,by omega,by omega,fun s x hx=>by rw[hr];exact hq s x hx,by omega,hv⟩
theorem BW.up {n i:Nat}{b:BD}(h:BW n i b):BW n (i+1) b:=h.to rfl rfl (by omega) ⟨Int.le_refl _,by omega⟩ h.q (by omega) h.ok
theorem BW.le {n i j:Nat}{b:BD}(h:BW n i b)(hij:i≤j):BW n j b:=⟨h.ln,h.n8,h.r1,Nat.le_trans h.tl (by omega),h.t0,by have:=h.t1;omega,h.q,Nat.le_trans h.sl hij,h.ok⟩
theorem gg (b:BD)(t:Int)(ds:List (Int×Int))(h:ds.length≤9):(b.did t ds).tr.length≤b.tr.length+10:=by
 show(b.tr++bG t ds).length≤_
 simp[bG];omega
theorem BW.did {n i:Nat}{b:BD}(h:BW n i b)(t:Int)(ds:List (Int×Int))(hd:ds.length≤9):BW n (i+1) (b.did t ds):=
 h.to rfl rfl (gg b t ds hd) ⟨Int.le_refl _,by show b.tk≤_;omega⟩ h.q (by show(b.sl.getD []).length≤_;omega) h.ok
theorem BW.set {n i:Nat}{b:BD}(h:BW n i b){s:Nat}{x:ST}(hx:(x.q.length:Int)≤b.room∧(x.h=-1∨0≤x.h)):∀(j:Nat)(y:ST),(b.st.set s x)[j]?=some y→(y.q.length:Int)≤b.room∧(y.h=-1∨0≤y.h):=fun j y hy=>by
 rw[List.getElem?_set]at hy
 split at hy
 ·split at hy
  ·cases hy;exact hx
  ·cases hy
 ·exact h.q j y hy
theorem BW.setS {n i:Nat}{b:BD}(h:BW n i b)(t:Int)(s:Nat)(x:ST)(ds:List (Int×Int))(hd:ds.length≤9)(hx:(x.q.length:Int)≤b.room∧(x.h=-1∨0≤x.h)):BW n (i+1) ((b.setS s x).did t ds):=
 h.to (by show(b.st.set s x).length=_;rw[List.length_set]) rfl (gg (b.setS s x) t ds hd) ⟨Int.le_refl _,by show b.tk≤_;omega⟩ (h.set hx) (by show(b.sl.getD []).length≤_;omega) h.ok
theorem BW.at {n i:Nat}{b:BD}(h:BW n i b){s:Nat}(hs:s<n):b.st[s]?=some (b.at s):=F7 (by rw[h.ln];exact hs)
theorem BW.lock {n i:Nat}{b:BD}(h:BW n i b){t:Int}(ht:0≤t){s:Nat}(hs:s<n):BW n (i+1) (iD b t s).1:=by
 unfold iD
 split
 ·exact h.setS t s _ _ (Nat.le_of_ble_eq_true rfl) ⟨(h.q s _ (h.at hs)).1,.inr ht⟩
 ·exact h.up
theorem BW.unlock {n i:Nat}{b:BD}(h:BW n i b)(t:Int){s:Nat}(hs:s<n):BW n (i+1) (g8 b t s):=h.setS t s _ _ (Nat.le_of_ble_eq_true rfl) ⟨(h.q s _ (h.at hs)).1,.inl rfl⟩
theorem BW.seal {n i:Nat}{b:BD}(h:BW n i b)(t:Int){s:Nat}(hs:s<n):BW n (i+1) (nw b t s):=h.setS t s _ _ (Nat.le_of_ble_eq_true rfl) ⟨(h.q s _ (h.at hs)).1,(h.q s _ (h.at hs)).2⟩
theorem BW.push {n i:Nat}{b:BD}(h:BW n i b)(t:Int){s:Nat}(hs:s<n)(k:Int)(c:CALL):BW n (i+1) (iC b t s k c).1:=by
 unfold iC
 split
 ·exact h.did t _ (Nat.le_of_ble_eq_true rfl)
 split
 ·exact h.did t _ (Nat.le_of_ble_eq_true rfl)
 ·next hr=>
  have hq:=h.q s _ (h.at hs)
  refine h.to (by show(b.st.set s _).length=_;rw[List.length_set]) rfl (by show((b.tr++[_])++[_,_,_]).length≤_;simp) ⟨by show b.tk≤b.tk+1;omega,Int.le_refl _⟩ (h.set ⟨?_,hq.2⟩) (by show(b.sl.getD []).length≤_;omega) h.ok
  show(((b.at s).q++[_]).length:Int)≤_
  simp;omega
theorem yS {x:ST}{tk:Int}{e:QE}{r:List QE}(h:qG x tk=some (e,r)):x.q=e::r∧e.tk=tk:=by
 unfold qG at h
 split at h
 ·cases h
 ·next hq=>
  split at h
  ·next he=>cases h;exact⟨hq,he⟩
  ·cases h
theorem BW.pop {n i:Nat}{b:BD}(h:BW n i b)(t:Int){s:Nat}(hs:s<n)(tk:Int):BW n (i+1) (kF b t s tk).1:=by
 unfold kF
 split
 ·exact h.did t _ (Nat.le_of_ble_eq_true rfl)
 ·next e r he=>
  have hq:=h.q s _ (h.at hs)
  have hl:=(yS he).1
  rw[hl]at hq
  refine h.to (by show(b.st.set s _).length=_;rw[List.length_set]) rfl (by show((b.tr++[_])++[_]).length≤_;simp) ⟨Int.le_refl _,by show b.tk≤_;omega⟩ (h.set ⟨?_,hq.2⟩) (by show(b.sl.getD []).length≤_;omega) h.ok
  have:=hq.1
  simp at this ⊢;omega
theorem BW.raise {n i:Nat}{b:BD}(h:BW n i b)(t:Int):BW n (i+1) (qx b t):=
 h.to rfl rfl (gg _ t _ (Nat.le_of_ble_eq_true rfl)) ⟨Int.le_refl _,by show b.tk≤_;omega⟩ h.q (by show(b.sl.getD []).length≤_;omega) h.ok
theorem BW.pub {n i:Nat}{b:BD}(h:BW n i b)(t site:Int){v:VS}(hv:okV v)(cl:Bool):BW n (i+1) (wT b t site v cl):=
 h.to rfl rfl (gg _ t _ (Nat.le_of_ble_eq_true rfl)) ⟨Int.le_refl _,by show b.tk≤_;omega⟩ h.q (by show(b.sl.getD []).length≤_;omega) hv.out
theorem s6 (k:Int)(x:RS):∀m:List (Int×RS),(ea k x m).length≤m.length+1
 |[]=>by simp[ea]
 |p::m=>by
  simp only[ea]
  split
  ·simp
  ·have:=s6 k x m
   simp;omega
theorem BW.fill {n i:Nat}{b:BD}(h:BW n i b)(t k:Int)(x:RS):BW n (i+1) (vG b t k x):=
 h.to rfl rfl (gg _ t _ (Nat.le_of_ble_eq_true rfl)) ⟨Int.le_refl _,by show b.tk≤_;omega⟩ h.q (by show(ea k x (b.sl.getD [])).length≤_;exact s6 k x _) h.ok
theorem BW.leave {n i:Nat}{b:BD}(h:BW n i b)(t:Int):BW n (i+1) (qM b t):=
 h.to rfl rfl (gg _ t _ (Nat.le_of_ble_eq_true rfl)) ⟨Int.le_refl _,by show b.tk≤_;omega⟩ h.q (by show(b.sl.getD []).length≤_;omega) h.ok
theorem BW.new {site room:Int}{n:Nat}(h:n≤8)(h0:0≤room)(h1:room≤16):BW n 0 (nM site n room):=by
 refine⟨by simp[nM],h,h1,Nat.zero_le _,Int.le_refl _,Int.le_refl _,fun s x hx=>?_,Nat.zero_le _,wZ⟩
 have:=List.mem_of_getElem? hx
 rw[List.eq_of_mem_replicate this];exact⟨h0,.inl rfl⟩
theorem CW {n i:Nat}{b:BD}(h:BW n i b)(hi:i≤10000)(t:Int){s:Nat}(hs:s<n):Cv 13 [bdv b,iv t,iv s] (.tup [bdv (iD b t s).1,bv (iD b t s).2]):=by
 have a1:=h.tl
 have a2:=h.ln
 have a3:=h.n8
 have k:=u1 b t s (h.at hs) (by omega) (by omega)
 unfold iD
 split
 ·next e=>rw[if_pos e]at k;exact k
 ·next e=>rw[if_neg e]at k;exact k
theorem CP {n i:Nat}{b:BD}(h:BW n i b)(hi:i≤10000)(t:Int){s:Nat}(hs:s<n):Cv 73 [rbv b,iv t,iv s] (.tup [rbv (iD b t s).1,bv (iD b t s).2]):=by
 have a1:=h.tl
 have a2:=h.ln
 have a3:=h.n8
 have a4:=(h.q s _ (h.at hs)).2
 have k:=CI b t s (h.at hs) (by omega) (by omega)
 unfold iD
 split
 ·next e=>rw[if_neg (by omega)]at k;exact k
 ·next e=>rw[if_pos (by omega)]at k;exact k
theorem xX {n i:Nat}{b:BD}(h:BW n i b)(hi:i≤10000)(t:Int){s:Nat}(hs:s<n):Cv 14 [bdv b,iv t,iv s] (bdv (g8 b t s)):=by
 have a1:=h.tl
 have a2:=h.ln
 have a3:=h.n8
 exact Af b t s (h.at hs) (by omega) (by omega)
theorem xV {n i:Nat}{b:BD}(h:BW n i b)(hi:i≤10000)(t:Int){s:Nat}(hs:s<n):Cv 74 [rbv b,iv t,iv s] (rbv (g8 b t s)):=by
 have a1:=h.tl
 have a2:=h.ln
 have a3:=h.n8
 exact xQ b t s (h.at hs) (by omega) (by omega)
theorem CU {n i:Nat}{b:BD}(h:BW n i b)(hi:i≤10000)(t:Int){s:Nat}(hs:s<n):Cv 17 [bdv b,iv t,iv s] (bdv (nw b t s)):=by
 have a1:=h.tl
 have a2:=h.ln
 have a3:=h.n8
 exact E8 b t s (h.at hs) (by omega) (by omega)
theorem CN {n i:Nat}{b:BD}(h:BW n i b)(hi:i≤10000)(t:Int){s:Nat}(hs:s<n):Cv 76 [rbv b,iv t,iv s] (rbv (nw b t s)):=by
 have a1:=h.tl
 have a2:=h.ln
 have a3:=h.n8
 exact CD b t s (h.at hs) (by omega) (by omega)
theorem Ay {n i:Nat}{b:BD}(h:BW n i b)(hi:i≤10000)(t:Int){s:Nat}(hs:s<n):Cv 18 [bdv b,iv t,iv s] (.tup [bdv (jc b t s).1,bv (jc b t s).2]):=by
 have a1:=h.tl
 exact C5 b t s (h.at hs) (by omega)
theorem Av {n i:Nat}{b:BD}(h:BW n i b)(hi:i≤10000)(t:Int){s:Nat}(hs:s<n):Cv 77 [rbv b,iv t,iv s] (.tup [rbv (jc b t s).1,bv (jc b t s).2]):=by
 have a1:=h.tl
 exact At b t s (h.at hs) (by omega)
theorem CV {n i:Nat}{b:BD}(h:BW n i b)(hi:i≤10000)(t:Int){s:Nat}(hs:s<n)(k:Int)(c:CALL):Cv 15 [bdv b,iv t,iv s,iv k,iG c] (.tup [bdv (iC b t s k c).1,iv (iC b t s k c).2]):=by
 have a1:=h.tl
 have a2:=h.ln
 have a3:=h.n8
 have a4:=h.t1
 have a5:=h.r1
 have a6:=(h.q s _ (h.at hs)).1
 have k1:=Fg b t s k c (h.at hs) (by omega) (by omega) (by omega) h.t0 (by omega)
 unfold iC
 split
 ·next e=>rw[if_pos e]at k1;exact k1
 ·next e=>
  rw[if_neg e]at k1
  split
  ·next e=>rw[if_pos e]at k1;exact k1
  ·next e=>rw[if_neg e]at k1;exact k1
theorem CO {n i:Nat}{b:BD}(h:BW n i b)(hi:i≤10000)(t:Int){s:Nat}(hs:s<n)(k:Int)(c:CALL):Cv 75 [rbv b,iv t,iv s,iv k,iG c] (.tup [rbv (iC b t s k c).1,iv (iC b t s k c).2]):=by
 have a1:=h.tl
 have a2:=h.ln
 have a3:=h.n8
 have a4:=h.t1
 have a5:=h.r1
 have a6:=(h.q s _ (h.at hs)).1
 have k1:=CF b t s k c (h.at hs) (by omega) (by omega) (by omega) h.t0 (by omega)
 unfold iC
 split
 ·next e=>rw[if_pos e]at k1;exact k1
 ·next e=>
  rw[if_neg e]at k1
  split
  ·next e=>rw[if_pos (by omega)]at k1;exact k1
  ·next e=>rw[if_neg (by omega)]at k1;exact k1
theorem Fi {n i:Nat}{b:BD}(h:BW n i b)(hi:i≤10000)(t:Int){s:Nat}(hs:s<n)(tk:Int):Cv 16 [bdv b,iv t,iv s,iv tk] (.tup [bdv (kF b t s tk).1,rY (kF b t s tk).2.1,bv (kF b t s tk).2.2]):=by
 have a1:=h.tl
 have a2:=h.ln
 have a3:=h.n8
 have a5:=h.r1
 have a6:=(h.q s _ (h.at hs)).1
 have k1:=Gh b t s tk (h.at hs) (by omega) (by omega) (by omega)
 unfold kF
 split
 ·next e=>rw[e]at k1;exact k1
 ·next e=>rw[e]at k1;exact k1
theorem Fe {n i:Nat}{b:BD}(h:BW n i b)(hi:i≤10000)(t:Int){s:Nat}(hs:s<n)(tk:Int):Cv 39 [rbv b,iv t,iv s,iv tk] (.tup [rbv (kF b t s tk).1,rY (kF b t s tk).2.1,bv (kF b t s tk).2.2]):=by
 have a1:=h.tl
 have a2:=h.ln
 have a3:=h.n8
 have a5:=h.r1
 have a6:=(h.q s _ (h.at hs)).1
 have k1:=Fa b t s tk (h.at hs) (by omega) (by omega) (by omega)
 unfold kF
 split
 ·next e=>rw[e]at k1;exact k1
 ·next e=>rw[e]at k1;exact k1
theorem Ax {n i:Nat}{b:BD}(h:BW n i b)(hi:i≤10000):Cv 26 [bdv b,rbv b] (bv true):=by
 have a1:=h.tl
 have a2:=h.ln
 have a3:=h.n8
 have a5:=h.r1
 exact Fs b (by omega) (by omega) fun s x hx=>by have:=(h.q s x hx).1;omega
end Go.Proofs.E
namespace Go.Proofs.E
attribute [local irreducible] elems LookP PutP
abbrev jj (a:BA):AV:=.agg [.d (.v (.int .u8 a.k)),iv a.t,iv a.s,iv a.sl,iv a.c.k,iv a.c.at_,cv' a.c.ch,iv a.c.o.k,iv a.c.o.i.c,iv a.c.o.i.s,iv a.c.o.a.c,iv a.c.o.a.s,cv' a.c.o.ch,iv a.c.a.c,iv a.c.a.s,iv a.tk,iv a.ot]
def ldB (b:BD)(t:Int):BD:=b.did t [(2,2002)]
def cY (b:BD)(t:Int)(s:Nat)(sl:Int)(c:CALL)(tk ot:Int):Nat→BD
 |0=>b.did t [(2,2001)]
 |1=>qx b t
 |2=>(iD b t s).1
 |3=>g8 b t s
 |4=>(iC b t s sl c).1
 |5=>(kF b t s tk).1
 |6=>nw b t s
 |7=>(jc b t s).1
 |8=>wT (ldB b t) t b.site (bS b.site ⟨b.v.s,b.v.l,b.v.R,[]⟩ b.cl c).1 (bS b.site ⟨b.v.s,b.v.l,b.v.R,[]⟩ b.cl c).2.1
 |9=>ldB b t
 |10=>vG b t sl ⟨0,ot,[120]⟩
 |11=>b.did t [(2,3000+sl)]
 |12=>b.did t [(0,100+sl)]
 |13=>qM b t
 |14=>b.did t [(2,2003)]
 |_=>b
theorem BW.act {n i:Nat}{b:BD}(h:BW n i b){t:Int}(ht:0≤t){s:Nat}(hs:s<n)(sl:Int)(c:CALL)(tk ot:Int):∀k,BW n (i+2) (cY b t s sl c tk ot k)
 |0=>(h.did t _ (Nat.le_of_ble_eq_true rfl)).up
 |1=>(h.raise t).up
 |2=>(h.lock ht hs).up
 |3=>(h.unlock t hs).up
 |4=>(h.push t hs sl c).up
 |5=>(h.pop t hs tk).up
 |6=>(h.seal t hs).up
 |7=>(h.did t _ (Nat.le_of_ble_eq_true rfl)).up
 |8=>(h.did t _ (Nat.le_of_ble_eq_true rfl)).pub t _ (h.ok.chg b.site b.cl c).1 _
 |9=>(h.did t _ (Nat.le_of_ble_eq_true rfl)).up
 |10=>(h.fill t sl _).up
 |11=>(h.did t _ (Nat.le_of_ble_eq_true rfl)).up
 |12=>(h.did t _ (Nat.le_of_ble_eq_true rfl)).up
 |13=>(h.leave t).up
 |14=>(h.did t _ (Nat.le_of_ble_eq_true rfl)).up
 |_+15=>h.up.up
set_option maxHeartbeats 4000000 in
theorem E5 {n i:Nat}{b:BD}(h:BW n i b)(hi:i≤10000){t:Int}(ht:0≤t){s:Nat}(hs:s<n){sl:Int}(k0:0≤sl)(k1:sl≤100000)(c:CALL)(hc:c.at_≤9223372036854775807)(tk ot:Int):Cv 27 [bdv b,rbv b,jj ⟨0,t,s,sl,c,tk,ot⟩] (.tup [bdv (cY b t s sl c tk ot 0),rbv (cY b t s sl c tk ot 0),bv true]):=by
 have a1:=h.tl
 have p:=GJ b t (by omega)
 have q:=Gf b t (by omega)
 generalize b.up=x at p q
 refine ab Tryz.f27 Tryz.func27 rfl rfl fun w H B g0=>?_
 (repeat (first|refine Spl.t rfl ?_|refine Spl.f rfl ?_))
 refine aa p (fun _ _=>rfl) rfl rfl rfl ?_
 (repeat (first|refine Spl.t rfl ?_|refine Spl.f rfl ?_))
 refine aa q (fun _ _=>rfl) rfl rfl rfl ?_
 (repeat (first|refine Spl.t rfl ?_|refine Spl.f rfl ?_))
 refine RegP.mixE 0 8 [6,7] rfl (by decide+kernel) ?_
 (repeat (first|refine Spl.t rfl ?_|refine Spl.f rfl ?_))
 refine FinP.open rfl ?_
 refine congrArg (fun z=>AV.tup [bdv (b.did t [(2,2001)]),rbv (b.did t [(2,2001)]),bv z]) ?_
 first|rfl|(simp;done)|(cases x<;>rfl)
set_option maxHeartbeats 4000000 in
theorem E4 {n i:Nat}{b:BD}(h:BW n i b)(hi:i≤10000){t:Int}(ht:0≤t){s:Nat}(hs:s<n){sl:Int}(k0:0≤sl)(k1:sl≤100000)(c:CALL)(hc:c.at_≤9223372036854775807)(tk ot:Int):Cv 27 [bdv b,rbv b,jj ⟨1,t,s,sl,c,tk,ot⟩] (.tup [bdv (cY b t s sl c tk ot 1),rbv (cY b t s sl c tk ot 1),bv true]):=by
 have a1:=h.tl
 have p:=CC b t (by omega)
 have q:=Ap b t (by omega)
 generalize(!b.up)=x at p q
 refine ab Tryz.f27 Tryz.func27 rfl rfl fun w H B g0=>?_
 (repeat (first|refine Spl.t rfl ?_|refine Spl.f rfl ?_))
 refine aa p (fun _ _=>rfl) rfl rfl rfl ?_
 (repeat (first|refine Spl.t rfl ?_|refine Spl.f rfl ?_))
 refine aa q (fun _ _=>rfl) rfl rfl rfl ?_
 (repeat (first|refine Spl.t rfl ?_|refine Spl.f rfl ?_))
 refine RegP.mixE 0 8 [6,7] rfl (by decide+kernel) ?_
 (repeat (first|refine Spl.t rfl ?_|refine Spl.f rfl ?_))
 refine FinP.open rfl ?_
 refine congrArg (fun z=>AV.tup [bdv (qx b t),rbv (qx b t),bv z]) ?_
 first|rfl|(simp;done)|(cases x<;>rfl)
set_option maxHeartbeats 4000000 in
theorem E3 {n i:Nat}{b:BD}(h:BW n i b)(hi:i≤10000){t:Int}(ht:0≤t){s:Nat}(hs:s<n){sl:Int}(k0:0≤sl)(k1:sl≤100000)(c:CALL)(hc:c.at_≤9223372036854775807)(tk ot:Int):Cv 27 [bdv b,rbv b,jj ⟨2,t,s,sl,c,tk,ot⟩] (.tup [bdv (cY b t s sl c tk ot 2),rbv (cY b t s sl c tk ot 2),bv true]):=by
 have a1:=h.tl
 have p:=CW h hi t hs
 have q:=CP h hi t hs
 show Cv _ _ (.tup [bdv (iD b t s).1,rbv (iD b t s).1,bv true])
 generalize iD b t s=y at p q ⊢
 obtain⟨y,x⟩:=y
 refine ab Tryz.f27 Tryz.func27 rfl rfl fun w H B g0=>?_
 (repeat (first|refine Spl.t rfl ?_|refine Spl.f rfl ?_))
 refine aa p (fun _ _=>rfl) rfl rfl rfl ?_
 (repeat (first|refine Spl.t rfl ?_|refine Spl.f rfl ?_))
 refine aa q (fun _ _=>rfl) rfl rfl rfl ?_
 (repeat (first|refine Spl.t rfl ?_|refine Spl.f rfl ?_))
 refine RegP.mixE 0 8 [6,7] rfl (by decide+kernel) ?_
 (repeat (first|refine Spl.t rfl ?_|refine Spl.f rfl ?_))
 refine FinP.open rfl ?_
 refine congrArg (fun z=>AV.tup [bdv y,rbv y,bv z]) ?_
 first|rfl|(simp;done)|(cases x<;>rfl)
set_option maxHeartbeats 4000000 in
theorem E2 {n i:Nat}{b:BD}(h:BW n i b)(hi:i≤10000){t:Int}(ht:0≤t){s:Nat}(hs:s<n){sl:Int}(k0:0≤sl)(k1:sl≤100000)(c:CALL)(hc:c.at_≤9223372036854775807)(tk ot:Int):Cv 27 [bdv b,rbv b,jj ⟨3,t,s,sl,c,tk,ot⟩] (.tup [bdv (cY b t s sl c tk ot 3),rbv (cY b t s sl c tk ot 3),bv true]):=by
 have a1:=h.tl
 have p:=xX h hi t hs
 have q:=xV h hi t hs
 show Cv _ _ (.tup [bdv (g8 b t s),rbv (g8 b t s),bv true])
 generalize g8 b t s=y at p q ⊢
 refine ab Tryz.f27 Tryz.func27 rfl rfl fun w H B g0=>?_
 (repeat (first|refine Spl.t rfl ?_|refine Spl.f rfl ?_))
 refine RegP.mixE 6 13 [3] rfl (by decide+kernel) ?_
 refine QuietP.of (QJ.call p (fun _ _=>rfl) rfl rfl) ?_
 (repeat (first|refine Spl.t rfl ?_|refine Spl.f rfl ?_))
 refine QuietP.of (QJ.call q (fun _ _=>rfl) rfl rfl) ?_
 (repeat (first|refine Spl.t rfl ?_|refine Spl.f rfl ?_))
 refine RegP.mixE 0 8 [6,7] rfl (by decide+kernel) ?_
 (repeat (first|refine Spl.t rfl ?_|refine Spl.f rfl ?_))
 refine FinP.open rfl ?_
 refine congrArg (fun z=>AV.tup [bdv y,rbv y,bv z]) ?_
 first|rfl|(simp;done)|(cases x<;>rfl)
set_option maxHeartbeats 4000000 in
theorem E1 {n i:Nat}{b:BD}(h:BW n i b)(hi:i≤10000){t:Int}(ht:0≤t){s:Nat}(hs:s<n){sl:Int}(k0:0≤sl)(k1:sl≤100000)(c:CALL)(hc:c.at_≤9223372036854775807)(tk ot:Int):Cv 27 [bdv b,rbv b,jj ⟨4,t,s,sl,c,tk,ot⟩] (.tup [bdv (cY b t s sl c tk ot 4),rbv (cY b t s sl c tk ot 4),bv true]):=by
 have a1:=h.tl
 have p:=CV h hi t hs sl c
 have q:=CO h hi t hs sl c
 have hof:=rh c
 show Cv _ _ (.tup [bdv (iC b t s sl c).1,rbv (iC b t s sl c).1,bv true])
 generalize iC b t s sl c=y at p q ⊢
 obtain⟨y,x⟩:=y
 refine ab Tryz.f27 Tryz.func27 rfl rfl fun w H B g0=>?_
 (repeat (first|refine Spl.t rfl ?_|refine Spl.f rfl ?_))
 refine aa p (fun _ _=>rfl) rfl rfl rfl ?_
 (repeat (first|refine Spl.t rfl ?_|refine Spl.f rfl ?_))
 refine RegP.mixE 0 17 [] rfl (by decide+kernel) ?_
 refine QuietP.of (QJ.call hof (fun _ _=>rfl) rfl rfl) ?_
 refine QuietP.of (QJ.call q (fun _ _=>rfl) rfl rfl) ?_
 (repeat (first|refine Spl.t rfl ?_|refine Spl.f rfl ?_))
 refine RegP.mixE 0 9 [3,4] rfl (by decide+kernel) ?_
 (repeat (first|refine Spl.t rfl ?_|refine Spl.f rfl ?_))
 refine RegP.mixE 0 8 [6,7] rfl (by decide+kernel) ?_
 (repeat (first|refine Spl.t rfl ?_|refine Spl.f rfl ?_))
 refine FinP.open rfl ?_
 refine congrArg (fun z=>AV.tup [bdv y,rbv y,bv z]) ?_
 first|rfl|(simp;done)|(cases x<;>rfl)
set_option maxHeartbeats 4000000 in
theorem EZ {n i:Nat}{b:BD}(h:BW n i b)(hi:i≤10000){t:Int}(ht:0≤t){s:Nat}(hs:s<n){sl:Int}(k0:0≤sl)(k1:sl≤100000)(c:CALL)(hc:c.at_≤9223372036854775807)(tk ot:Int):Cv 27 [bdv b,rbv b,jj ⟨5,t,s,sl,c,tk,ot⟩] (.tup [bdv (cY b t s sl c tk ot 5),rbv (cY b t s sl c tk ot 5),bv true]):=by
 have a1:=h.tl
 have p:=Fi h hi t hs tk
 have q:=Fe h hi t hs tk
 show Cv _ _ (.tup [bdv (kF b t s tk).1,rbv (kF b t s tk).1,bv true])
 generalize kF b t s tk=y at p q ⊢
 obtain⟨y,e,x⟩:=y
 have hen:=vN e
 refine ab Tryz.f27 Tryz.func27 rfl rfl fun w H B g0=>?_
 (repeat (first|refine Spl.t rfl ?_|refine Spl.f rfl ?_))
 refine aa p (fun _ _=>rfl) rfl rfl rfl ?_
 (repeat (first|refine Spl.t rfl ?_|refine Spl.f rfl ?_))
 refine aa q (fun _ _=>rfl) rfl rfl rfl ?_
 (repeat (first|refine Spl.t rfl ?_|refine Spl.f rfl ?_))
 refine RegP.mixE 0 15 [3,4] rfl (by decide+kernel) ?_
 refine QuietP.of (QJ.call hen (fun _ _=>rfl) rfl rfl) ?_
 refine QuietP.of (O.eqT 8 rfl rfl rfl rfl rfl vK zF (FZ e)) ?_
 (repeat (first|refine Spl.t rfl ?_|refine Spl.f rfl ?_))
 refine RegP.mixE 0 8 [6,7] rfl (by decide+kernel) ?_
 (repeat (first|refine Spl.t rfl ?_|refine Spl.f rfl ?_))
 refine FinP.open rfl ?_
 refine congrArg (fun z=>AV.tup [bdv y,rbv y,bv z]) ?_
 first|rfl|(simp;done)|(cases x<;>rfl)
set_option maxHeartbeats 4000000 in
theorem EY {n i:Nat}{b:BD}(h:BW n i b)(hi:i≤10000){t:Int}(ht:0≤t){s:Nat}(hs:s<n){sl:Int}(k0:0≤sl)(k1:sl≤100000)(c:CALL)(hc:c.at_≤9223372036854775807)(tk ot:Int):Cv 27 [bdv b,rbv b,jj ⟨6,t,s,sl,c,tk,ot⟩] (.tup [bdv (cY b t s sl c tk ot 6),rbv (cY b t s sl c tk ot 6),bv true]):=by
 have a1:=h.tl
 have p:=CU h hi t hs
 have q:=CN h hi t hs
 show Cv _ _ (.tup [bdv (nw b t s),rbv (nw b t s),bv true])
 generalize nw b t s=y at p q ⊢
 refine ab Tryz.f27 Tryz.func27 rfl rfl fun w H B g0=>?_
 (repeat (first|refine Spl.t rfl ?_|refine Spl.f rfl ?_))
 refine RegP.mixE 6 13 [3] rfl (by decide+kernel) ?_
 refine QuietP.of (QJ.call p (fun _ _=>rfl) rfl rfl) ?_
 (repeat (first|refine Spl.t rfl ?_|refine Spl.f rfl ?_))
 refine QuietP.of (QJ.call q (fun _ _=>rfl) rfl rfl) ?_
 (repeat (first|refine Spl.t rfl ?_|refine Spl.f rfl ?_))
 refine RegP.mixE 0 8 [6,7] rfl (by decide+kernel) ?_
 (repeat (first|refine Spl.t rfl ?_|refine Spl.f rfl ?_))
 refine FinP.open rfl ?_
 refine congrArg (fun z=>AV.tup [bdv y,rbv y,bv z]) ?_
 first|rfl|(simp;done)|(cases x<;>rfl)
set_option maxHeartbeats 4000000 in
theorem EX {n i:Nat}{b:BD}(h:BW n i b)(hi:i≤10000){t:Int}(ht:0≤t){s:Nat}(hs:s<n){sl:Int}(k0:0≤sl)(k1:sl≤100000)(c:CALL)(hc:c.at_≤9223372036854775807)(tk ot:Int):Cv 27 [bdv b,rbv b,jj ⟨7,t,s,sl,c,tk,ot⟩] (.tup [bdv (cY b t s sl c tk ot 7),rbv (cY b t s sl c tk ot 7),bv true]):=by
 have a1:=h.tl
 have p:=Ay h hi t hs
 have q:=Av h hi t hs
 show Cv _ _ (.tup [bdv (jc b t s).1,rbv (jc b t s).1,bv true])
 generalize jc b t s=y at p q ⊢
 obtain⟨y,x⟩:=y
 refine ab Tryz.f27 Tryz.func27 rfl rfl fun w H B g0=>?_
 (repeat (first|refine Spl.t rfl ?_|refine Spl.f rfl ?_))
 refine aa p (fun _ _=>rfl) rfl rfl rfl ?_
 (repeat (first|refine Spl.t rfl ?_|refine Spl.f rfl ?_))
 refine aa q (fun _ _=>rfl) rfl rfl rfl ?_
 (repeat (first|refine Spl.t rfl ?_|refine Spl.f rfl ?_))
 refine RegP.mixE 0 8 [6,7] rfl (by decide+kernel) ?_
 (repeat (first|refine Spl.t rfl ?_|refine Spl.f rfl ?_))
 refine FinP.open rfl ?_
 refine congrArg (fun z=>AV.tup [bdv y,rbv y,bv z]) ?_
 first|rfl|(simp;done)|(cases x<;>rfl)
set_option maxHeartbeats 4000000 in
theorem EW {n i:Nat}{b:BD}(h:BW n i b)(hi:i≤10000){t:Int}(ht:0≤t){s:Nat}(hs:s<n){sl:Int}(k0:0≤sl)(k1:sl≤100000)(c:CALL)(hc:c.at_≤9223372036854775807)(tk ot:Int):Cv 27 [bdv b,rbv b,jj ⟨8,t,s,sl,c,tk,ot⟩] (.tup [bdv (cY b t s sl c tk ot 8),rbv (cY b t s sl c tk ot 8),bv true]):=by
 have a1:=h.tl
 have p:=AS b t (by omega)
 have q:=wd b t (by omega)
 have hof:=rh c
 have hd:=Au h.ok b.site b.cl c
 have hr:=wa h.ok b.site b.cl c hc
 show Cv _ _ (.tup [bdv (wT (ldB b t) t b.site (bS b.site ⟨b.v.s,b.v.l,b.v.R,[]⟩ b.cl c).1 (bS b.site ⟨b.v.s,b.v.l,b.v.R,[]⟩ b.cl c).2.1),rbv (wT (ldB b t) t b.site (bS b.site ⟨b.v.s,b.v.l,b.v.R,[]⟩ b.cl c).1 (bS b.site ⟨b.v.s,b.v.l,b.v.R,[]⟩ b.cl c).2.1),bv true])
 generalize bS b.site ⟨b.v.s,b.v.l,b.v.R,[]⟩ b.cl c=y at hd hr ⊢
 obtain⟨v,cl,x⟩:=y
 have hp:=xW (ldB b t) t b.site v cl (by have:=gg b t [(2,2002)] (Nat.le_of_ble_eq_true rfl);show(b.did t [(2,2002)]).tr.length≤_;omega)
 have hq:=uT (ldB b t) t b.site v cl (by have:=gg b t [(2,2002)] (Nat.le_of_ble_eq_true rfl);show(b.did t [(2,2002)]).tr.length≤_;omega)
 have hsd:=o4 x
 refine ab Tryz.f27 Tryz.func27 rfl rfl fun w H B g0=>?_
 (repeat (first|refine Spl.t rfl ?_|refine Spl.f rfl ?_))
 refine aa p (fun _ _=>rfl) rfl rfl rfl ?_
 (repeat (first|refine Spl.t rfl ?_|refine Spl.f rfl ?_))
 refine aa q (fun _ _=>rfl) rfl rfl rfl ?_
 (repeat (first|refine Spl.t rfl ?_|refine Spl.f rfl ?_))
 refine aa hd (fun _ _=>rfl) rfl rfl rfl ?_
 (repeat (first|refine Spl.t rfl ?_|refine Spl.f rfl ?_))
 refine RegP.mixE 1 13 [24] rfl (by decide+kernel) ?_
 refine QuietP.of (QJ.call hof (fun _ _=>rfl) rfl rfl) ?_
 refine QuietP.of (QJ.call hr (fun _ _=>rfl) rfl rfl) ?_
 (repeat (first|refine Spl.t rfl ?_|refine Spl.f rfl ?_))
 refine RegP.mixE 0 18 [3,4] rfl (by decide+kernel) ?_
 refine QuietP.of (QJ.call hp (fun _ _=>rfl) rfl rfl) ?_
 refine QuietP.of (QJ.call hq (fun _ _=>rfl) rfl rfl) ?_
 refine QuietP.of (QJ.call hsd (fun _ _=>rfl) rfl rfl) ?_
 refine QuietP.of (O.eqT 3 rfl rfl rfl rfl rfl qT uD (Ew x x)) ?_
 (repeat (first|refine Spl.t rfl ?_|refine Spl.f rfl ?_))
 refine RegP.mixE 0 8 [6,7] rfl (by decide+kernel) ?_
 (repeat (first|refine Spl.t rfl ?_|refine Spl.f rfl ?_))
 refine FinP.open rfl ?_
 refine congrArg (fun z=>AV.tup [bdv (wT (ldB b t) t b.site v cl),rbv (wT (ldB b t) t b.site v cl),bv z]) ?_
 first|rfl|(simp;done)|(cases x<;>rfl)
set_option maxHeartbeats 4000000 in
theorem EV {n i:Nat}{b:BD}(h:BW n i b)(hi:i≤10000){t:Int}(ht:0≤t){s:Nat}(hs:s<n){sl:Int}(k0:0≤sl)(k1:sl≤100000)(c:CALL)(hc:c.at_≤9223372036854775807)(tk ot:Int):Cv 27 [bdv b,rbv b,jj ⟨9,t,s,sl,c,tk,ot⟩] (.tup [bdv (cY b t s sl c tk ot 9),rbv (cY b t s sl c tk ot 9),bv true]):=by
 have a1:=h.tl
 have p:=AS b t (by omega)
 have q:=wd b t (by omega)
 have hof:=rh c
 have hd:=wc h.ok b.site b.cl c
 have hr:=wa h.ok b.site b.cl c hc
 generalize bS b.site ⟨b.v.s,b.v.l,b.v.R,[]⟩ b.cl c=y at hd hr
 obtain⟨v,cl,x⟩:=y
 have hsd:=o4 x
 refine ab Tryz.f27 Tryz.func27 rfl rfl fun w H B g0=>?_
 (repeat (first|refine Spl.t rfl ?_|refine Spl.f rfl ?_))
 refine aa p (fun _ _=>rfl) rfl rfl rfl ?_
 (repeat (first|refine Spl.t rfl ?_|refine Spl.f rfl ?_))
 refine aa q (fun _ _=>rfl) rfl rfl rfl ?_
 (repeat (first|refine Spl.t rfl ?_|refine Spl.f rfl ?_))
 refine RegP.mixE 0 14 [] rfl (by decide+kernel) ?_
 refine QuietP.of (QJ.call hof (fun _ _=>rfl) rfl rfl) ?_
 refine QuietP.of (QJ.call hr (fun _ _=>rfl) rfl rfl) ?_
 (repeat (first|refine Spl.t rfl ?_|refine Spl.f rfl ?_))
 refine RegP.mixE 0 13 [3,4] rfl (by decide+kernel) ?_
 refine QuietP.of (QJ.call hd (fun _ _=>rfl) rfl rfl) ?_
 refine QuietP.of (QJ.call hsd (fun _ _=>rfl) rfl rfl) ?_
 refine QuietP.of (O.eqT 3 rfl rfl rfl rfl rfl qT uD (Ew x x)) ?_
 (repeat (first|refine Spl.t rfl ?_|refine Spl.f rfl ?_))
 refine RegP.mixE 0 8 [6,7] rfl (by decide+kernel) ?_
 (repeat (first|refine Spl.t rfl ?_|refine Spl.f rfl ?_))
 refine FinP.open rfl ?_
 refine congrArg (fun z=>AV.tup [bdv (ldB b t),rbv (ldB b t),bv z]) ?_
 first|rfl|(simp;done)|(cases x<;>rfl)
set_option maxHeartbeats 4000000 in
theorem Cw {n i:Nat}{b:BD}(h:BW n i b)(hi:i≤10000){t:Int}(ht:0≤t){s:Nat}(hs:s<n){sl:Int}(k0:0≤sl)(k1:sl≤100000)(c:CALL)(hc:c.at_≤9223372036854775807)(tk ot:Int):Cv 27 [bdv b,rbv b,jj ⟨10,t,s,sl,c,tk,ot⟩] (.tup [bdv (cY b t s sl c tk ot 10),rbv (cY b t s sl c tk ot 10),bv true]):=by
 have a1:=h.tl
 have a5:=h.sl
 have p:=Fv b t sl ⟨0,ot,[120]⟩ (by omega) k0 k1
 have q:=CL b t sl ⟨0,ot,[120]⟩ (by omega) (by omega) k0 k1
 refine ab Tryz.f27 Tryz.func27 rfl rfl fun w H B g0=>?_
 (repeat (first|refine Spl.t rfl ?_|refine Spl.f rfl ?_))
 refine RegP.mixE 9 19 [3] rfl (by decide+kernel) ?_
 refine QuietP.of (QJ.call p (fun _ _=>rfl) rfl rfl) ?_
 (repeat (first|refine Spl.t rfl ?_|refine Spl.f rfl ?_))
 refine QuietP.of (QJ.call q (fun _ _=>rfl) rfl rfl) ?_
 (repeat (first|refine Spl.t rfl ?_|refine Spl.f rfl ?_))
 refine RegP.mixE 0 8 [6,7] rfl (by decide+kernel) ?_
 (repeat (first|refine Spl.t rfl ?_|refine Spl.f rfl ?_))
 refine FinP.open rfl ?_
 refine congrArg (fun z=>AV.tup [bdv (vG b t sl ⟨0,ot,[120]⟩),rbv (vG b t sl ⟨0,ot,[120]⟩),bv z]) ?_
 first|rfl|(simp;done)|(cases x<;>rfl)
set_option maxHeartbeats 4000000 in
theorem Cu {n i:Nat}{b:BD}(h:BW n i b)(hi:i≤10000){t:Int}(ht:0≤t){s:Nat}(hs:s<n){sl:Int}(k0:0≤sl)(k1:sl≤100000)(c:CALL)(hc:c.at_≤9223372036854775807)(tk ot:Int):Cv 27 [bdv b,rbv b,jj ⟨11,t,s,sl,c,tk,ot⟩] (.tup [bdv (cY b t s sl c tk ot 11),rbv (cY b t s sl c tk ot 11),bv true]):=by
 have a1:=h.tl
 have a5:=h.sl
 have p:=AZ b t sl (by omega) k0 k1
 have q:=xS b t sl (by omega) (by omega) k0 k1
 generalize(b.slot sl).isSome=x at p q
 refine ab Tryz.f27 Tryz.func27 rfl rfl fun w H B g0=>?_
 (repeat (first|refine Spl.t rfl ?_|refine Spl.f rfl ?_))
 refine aa p (fun _ _=>rfl) rfl rfl rfl ?_
 (repeat (first|refine Spl.t rfl ?_|refine Spl.f rfl ?_))
 refine aa q (fun _ _=>rfl) rfl rfl rfl ?_
 (repeat (first|refine Spl.t rfl ?_|refine Spl.f rfl ?_))
 refine RegP.mixE 0 8 [6,7] rfl (by decide+kernel) ?_
 (repeat (first|refine Spl.t rfl ?_|refine Spl.f rfl ?_))
 refine FinP.open rfl ?_
 refine congrArg (fun z=>AV.tup [bdv (b.did t [(2,3000+sl)]),rbv (b.did t [(2,3000+sl)]),bv z]) ?_
 first|rfl|(simp;done)|(cases x<;>rfl)
set_option maxHeartbeats 4000000 in
theorem Cs {n i:Nat}{b:BD}(h:BW n i b)(hi:i≤10000){t:Int}(ht:0≤t){s:Nat}(hs:s<n){sl:Int}(k0:0≤sl)(k1:sl≤100000)(c:CALL)(hc:c.at_≤9223372036854775807)(tk ot:Int):Cv 27 [bdv b,rbv b,jj ⟨12,t,s,sl,c,tk,ot⟩] (.tup [bdv (cY b t s sl c tk ot 12),rbv (cY b t s sl c tk ot 12),bv true]):=by
 have a1:=h.tl
 have a5:=h.sl
 have p:=C4 b t sl (by omega) k0 k1
 have q:=As b t sl (by omega) (by omega) k0 k1
 generalize(b.slot sl).getD RS0=x at p q
 have hsd:=o4 x
 refine ab Tryz.f27 Tryz.func27 rfl rfl fun w H B g0=>?_
 (repeat (first|refine Spl.t rfl ?_|refine Spl.f rfl ?_))
 refine aa p (fun _ _=>rfl) rfl rfl rfl ?_
 (repeat (first|refine Spl.t rfl ?_|refine Spl.f rfl ?_))
 refine aa q (fun _ _=>rfl) rfl rfl rfl ?_
 (repeat (first|refine Spl.t rfl ?_|refine Spl.f rfl ?_))
 refine RegP.mixE 0 10 [3,4] rfl (by decide+kernel) ?_
 refine QuietP.of (QJ.call hsd (fun _ _=>rfl) rfl rfl) ?_
 refine QuietP.of (O.eqT 3 rfl rfl rfl rfl rfl qT uD (Ew x x)) ?_
 (repeat (first|refine Spl.t rfl ?_|refine Spl.f rfl ?_))
 refine RegP.mixE 0 8 [6,7] rfl (by decide+kernel) ?_
 (repeat (first|refine Spl.t rfl ?_|refine Spl.f rfl ?_))
 refine FinP.open rfl ?_
 refine congrArg (fun z=>AV.tup [bdv (b.did t [(0,100+sl)]),rbv (b.did t [(0,100+sl)]),bv z]) ?_
 first|rfl|(simp;done)|(cases x<;>rfl)
set_option maxHeartbeats 4000000 in
theorem Cr {n i:Nat}{b:BD}(h:BW n i b)(hi:i≤10000){t:Int}(ht:0≤t){s:Nat}(hs:s<n){sl:Int}(k0:0≤sl)(k1:sl≤100000)(c:CALL)(hc:c.at_≤9223372036854775807)(tk ot:Int):Cv 27 [bdv b,rbv b,jj ⟨13,t,s,sl,c,tk,ot⟩] (.tup [bdv (cY b t s sl c tk ot 13),rbv (cY b t s sl c tk ot 13),bv true]):=by
 have a1:=h.tl
 have p:=C1 b t (by omega)
 have q:=Ar b t (by omega)
 refine ab Tryz.f27 Tryz.func27 rfl rfl fun w H B g0=>?_
 (repeat (first|refine Spl.t rfl ?_|refine Spl.f rfl ?_))
 refine RegP.mixE 4 9 [3] rfl (by decide+kernel) ?_
 refine QuietP.of (QJ.call p (fun _ _=>rfl) rfl rfl) ?_
 (repeat (first|refine Spl.t rfl ?_|refine Spl.f rfl ?_))
 refine QuietP.of (QJ.call q (fun _ _=>rfl) rfl rfl) ?_
 (repeat (first|refine Spl.t rfl ?_|refine Spl.f rfl ?_))
 refine RegP.mixE 0 8 [6,7] rfl (by decide+kernel) ?_
 (repeat (first|refine Spl.t rfl ?_|refine Spl.f rfl ?_))
 refine FinP.open rfl ?_
 refine congrArg (fun z=>AV.tup [bdv (qM b t),rbv (qM b t),bv z]) ?_
 first|rfl|(simp;done)|(cases x<;>rfl)
set_option maxHeartbeats 4000000 in
theorem Cq {n i:Nat}{b:BD}(h:BW n i b)(hi:i≤10000){t:Int}(ht:0≤t){s:Nat}(hs:s<n){sl:Int}(k0:0≤sl)(k1:sl≤100000)(c:CALL)(hc:c.at_≤9223372036854775807)(tk ot:Int):Cv 27 [bdv b,rbv b,jj ⟨14,t,s,sl,c,tk,ot⟩] (.tup [bdv (cY b t s sl c tk ot 14),rbv (cY b t s sl c tk ot 14),bv true]):=by
 have a1:=h.tl
 have p:=Fu b t (by omega)
 have q:=CK b t (by omega)
 generalize b.gone=x at p q
 refine ab Tryz.f27 Tryz.func27 rfl rfl fun w H B g0=>?_
 (repeat (first|refine Spl.t rfl ?_|refine Spl.f rfl ?_))
 refine aa p (fun _ _=>rfl) rfl rfl rfl ?_
 (repeat (first|refine Spl.t rfl ?_|refine Spl.f rfl ?_))
 refine aa q (fun _ _=>rfl) rfl rfl rfl ?_
 (repeat (first|refine Spl.t rfl ?_|refine Spl.f rfl ?_))
 refine RegP.mixE 0 8 [6,7] rfl (by decide+kernel) ?_
 (repeat (first|refine Spl.t rfl ?_|refine Spl.f rfl ?_))
 refine FinP.open rfl ?_
 refine congrArg (fun z=>AV.tup [bdv (b.did t [(2,2003)]),rbv (b.did t [(2,2003)]),bv z]) ?_
 first|rfl|(simp;done)|(cases x<;>rfl)
theorem Cp {n i:Nat}{b:BD}(h:BW n i b)(hi:i≤10000){t:Int}(ht:0≤t){s:Nat}(hs:s<n){sl:Int}(k0:0≤sl)(k1:sl≤100000)(c:CALL)(hc:c.at_≤9223372036854775807)(tk ot:Int)(m:Nat):Cv 27 [bdv b,rbv b,jj ⟨((m+15:Nat):Int),t,s,sl,c,tk,ot⟩] (.tup [bdv b,rbv b,bv true]):=by
 refine ab Tryz.f27 Tryz.func27 rfl rfl fun w H B g0=>?_
 (repeat (first|refine Spl.t rfl ?_|refine Spl.f rfl ?_))
 (try refine Spl.f (decide_eq_false (p:=((m+15:Nat):Int)=0) (by omega)) ?_)
 (repeat (first|refine Spl.t rfl ?_|refine Spl.f rfl ?_))
 refine RegP.mixE 0 8 [6,7] rfl (by decide+kernel) ?_
 (repeat (first|refine Spl.t rfl ?_|refine Spl.f rfl ?_))
 exact FinP.open rfl rfl
theorem Ez {n i:Nat}{b:BD}(h:BW n i b)(hi:i≤10000){t:Int}(ht:0≤t){s:Nat}(hs:s<n){sl:Int}(k0:0≤sl)(k1:sl≤100000)(c:CALL)(hc:c.at_≤9223372036854775807)(tk ot:Int):∀m:Nat,Cv 27 [bdv b,rbv b,jj ⟨(m:Int),t,s,sl,c,tk,ot⟩] (.tup [bdv (cY b t s sl c tk ot m),rbv (cY b t s sl c tk ot m),bv true])
 |0=>E5 h hi ht hs k0 k1 c hc tk ot
 |1=>E4 h hi ht hs k0 k1 c hc tk ot
 |2=>E3 h hi ht hs k0 k1 c hc tk ot
 |3=>E2 h hi ht hs k0 k1 c hc tk ot
 |4=>E1 h hi ht hs k0 k1 c hc tk ot
 |5=>EZ h hi ht hs k0 k1 c hc tk ot
 |6=>EY h hi ht hs k0 k1 c hc tk ot
 |7=>EX h hi ht hs k0 k1 c hc tk ot
 |8=>EW h hi ht hs k0 k1 c hc tk ot
 |9=>EV h hi ht hs k0 k1 c hc tk ot
 |10=>Cw h hi ht hs k0 k1 c hc tk ot
 |11=>Cu h hi ht hs k0 k1 c hc tk ot
 |12=>Cs h hi ht hs k0 k1 c hc tk ot
 |13=>Cr h hi ht hs k0 k1 c hc tk ot
 |14=>Cq h hi ht hs k0 k1 c hc tk ot
 |m+15=>Cp h hi ht hs k0 k1 c hc tk ot m
end Go.Proofs.E
namespace Go.Proofs.E
attribute [local irreducible] elems LookP PutP
theorem eb:Cv 24 [bdZ] (iv 0):=by
 refine ab Tryz.f24 Tryz.func24 rfl rfl fun w H B g0=>?_
 exact FinP.open rfl rfl
def FR (a:BA):Prop:=0≤a.k∧D7 a.c
theorem zX {site stripes room:Int}:qZ site stripes room↔¬(1≤site∧site≤1000∧1≤stripes∧stripes≤8∧1≤room∧room≤16):=by unfold qZ;omega
set_option maxHeartbeats 16000000 in
theorem ry (site stripes room:Int)(acts:List BA)(hacts:∀a,a∈acts→FR a):Cv 4 [iv site,iv stripes,iv room,.d (.sl 17 (acts.map baD))] (bv true):=by
 by_cases hb:qZ site stripes room
 ·refine ab Tryz.f4 Tryz.func4 rfl rfl fun w H B g0=>?_
  refine Spl.of (fun g1=>?_) (fun g1=>?_)
  ·(repeat (first|refine Spl.t rfl ?_|refine Spl.f rfl ?_))
   refine aa cD (fun _ _=>rfl) rfl rfl rfl ?_
   (repeat (first|refine Spl.t rfl ?_|refine Spl.f rfl ?_))
   exact FinP.open rfl rfl
  (repeat (first|refine Spl.t rfl ?_|refine Spl.f rfl ?_))
  refine aa (C6 site stripes room hb) (fun _ _=>rfl) rfl rfl rfl ?_
  (repeat (first|refine Spl.t rfl ?_|refine Spl.f rfl ?_))
  have fin:∀x:Bool,x=true→x=true:=fun _ h=>h
  unfold qZ at hb
  by_cases b1:site<1
  ·refine Spl.t (decide_eq_true b1) ?_
   (repeat (first|refine Spl.t rfl ?_|refine Spl.f rfl ?_))
   refine aa cD (fun _ _=>rfl) rfl rfl rfl ?_
   (repeat (first|refine Spl.t rfl ?_|refine Spl.f rfl ?_))
   refine aa eb (fun _ _=>rfl) rfl rfl rfl ?_
   (repeat (first|refine Spl.t rfl ?_|refine Spl.f rfl ?_))
   exact FinP.open rfl rfl
  refine Spl.f (decide_eq_false b1) ?_
  (repeat (first|refine Spl.t rfl ?_|refine Spl.f rfl ?_))
  by_cases b2:site>1000
  ·refine Spl.t (decide_eq_true b2) ?_
   (repeat (first|refine Spl.t rfl ?_|refine Spl.f rfl ?_))
   refine aa cD (fun _ _=>rfl) rfl rfl rfl ?_
   (repeat (first|refine Spl.t rfl ?_|refine Spl.f rfl ?_))
   refine aa eb (fun _ _=>rfl) rfl rfl rfl ?_
   (repeat (first|refine Spl.t rfl ?_|refine Spl.f rfl ?_))
   exact FinP.open rfl rfl
  refine Spl.f (decide_eq_false b2) ?_
  (repeat (first|refine Spl.t rfl ?_|refine Spl.f rfl ?_))
  by_cases b3:stripes<1
  ·refine Spl.t (decide_eq_true b3) ?_
   (repeat (first|refine Spl.t rfl ?_|refine Spl.f rfl ?_))
   refine aa cD (fun _ _=>rfl) rfl rfl rfl ?_
   (repeat (first|refine Spl.t rfl ?_|refine Spl.f rfl ?_))
   refine aa eb (fun _ _=>rfl) rfl rfl rfl ?_
   (repeat (first|refine Spl.t rfl ?_|refine Spl.f rfl ?_))
   exact FinP.open rfl rfl
  refine Spl.f (decide_eq_false b3) ?_
  (repeat (first|refine Spl.t rfl ?_|refine Spl.f rfl ?_))
  by_cases b4:stripes>8
  ·refine Spl.t (decide_eq_true b4) ?_
   (repeat (first|refine Spl.t rfl ?_|refine Spl.f rfl ?_))
   refine aa cD (fun _ _=>rfl) rfl rfl rfl ?_
   (repeat (first|refine Spl.t rfl ?_|refine Spl.f rfl ?_))
   refine aa eb (fun _ _=>rfl) rfl rfl rfl ?_
   (repeat (first|refine Spl.t rfl ?_|refine Spl.f rfl ?_))
   exact FinP.open rfl rfl
  refine Spl.f (decide_eq_false b4) ?_
  (repeat (first|refine Spl.t rfl ?_|refine Spl.f rfl ?_))
  by_cases b5:room<1
  ·refine Spl.t (decide_eq_true b5) ?_
   (repeat (first|refine Spl.t rfl ?_|refine Spl.f rfl ?_))
   refine aa cD (fun _ _=>rfl) rfl rfl rfl ?_
   (repeat (first|refine Spl.t rfl ?_|refine Spl.f rfl ?_))
   refine aa eb (fun _ _=>rfl) rfl rfl rfl ?_
   (repeat (first|refine Spl.t rfl ?_|refine Spl.f rfl ?_))
   exact FinP.open rfl rfl
  refine Spl.f (decide_eq_false b5) ?_
  (repeat (first|refine Spl.t rfl ?_|refine Spl.f rfl ?_))
  refine Spl.t (decide_eq_true (by omega)) ?_
  (repeat (first|refine Spl.t rfl ?_|refine Spl.f rfl ?_))
  refine aa cD (fun _ _=>rfl) rfl rfl rfl ?_
  (repeat (first|refine Spl.t rfl ?_|refine Spl.f rfl ?_))
  refine aa eb (fun _ _=>rfl) rfl rfl rfl ?_
  (repeat (first|refine Spl.t rfl ?_|refine Spl.f rfl ?_))
  exact FinP.open rfl rfl
 have hq:=Classical.not_not.1 (fun h=>hb (zX.2 h))
 obtain⟨n,rfl⟩:∃n:Nat,stripes=(n:Int):=⟨stripes.toNat,by omega⟩
 have h0:BW n 0 (nM site n room):=BW.new (by omega) (by omega) (by omega)
 refine ab Tryz.f4 Tryz.func4 rfl rfl fun w H B g0=>?_
 refine Spl.of (fun g1=>?_) (fun g1=>?_)
 ·(repeat (first|refine Spl.t rfl ?_|refine Spl.f rfl ?_))
  refine aa cD (fun _ _=>rfl) rfl rfl rfl ?_
  (repeat (first|refine Spl.t rfl ?_|refine Spl.f rfl ?_))
  exact FinP.open rfl rfl
 have g1:=of_decide_eq_false g1
 simp at g1
 (repeat (first|refine Spl.t rfl ?_|refine Spl.f rfl ?_))
 refine aa (A6 site room n hb) (fun _ _=>rfl) rfl rfl rfl ?_
 (repeat (first|refine Spl.t rfl ?_|refine Spl.f rfl ?_))
 refine Spl.f (decide_eq_false (by omega)) ?_
 (repeat (first|refine Spl.t rfl ?_|refine Spl.f rfl ?_))
 refine Spl.f (decide_eq_false (by omega)) ?_
 (repeat (first|refine Spl.t rfl ?_|refine Spl.f rfl ?_))
 refine Spl.f (decide_eq_false (by omega)) ?_
 (repeat (first|refine Spl.t rfl ?_|refine Spl.f rfl ?_))
 refine Spl.f (decide_eq_false (by omega)) ?_
 (repeat (first|refine Spl.t rfl ?_|refine Spl.f rfl ?_))
 refine Spl.f (decide_eq_false (by omega)) ?_
 (repeat (first|refine Spl.t rfl ?_|refine Spl.f rfl ?_))
 refine Spl.f (decide_eq_false (by omega)) ?_
 (repeat (first|refine Spl.t rfl ?_|refine Spl.f rfl ?_))
 refine aa (Aq site room n (by omega)) (fun _ _=>rfl) rfl rfl rfl ?_
 (repeat (first|refine Spl.t rfl ?_|refine Spl.f rfl ?_))
 refine aa (Ax h0 (by omega)) (fun _ _=>rfl) rfl rfl rfl ?_
 (repeat (first|refine Spl.t rfl ?_|refine Spl.f rfl ?_))
 refine ax (V:=Nat×BD) (fun v=>[(74,iv v.1)]) (fun v=>[(9,.cells (bcs v.2)),(11,.cells (FH v.2))]) [9,11] (fun v=>acts.length-v.1) (fun v=>v.1≤acts.length∧BW n (2*v.1) v.2) (0,nM site n room) ⟨Nat.zero_le _,h0⟩ (by repeat' (first|exact trivial|exact rfl|refine And.intro ?_ ?_)) (by repeat' (first|exact trivial|exact rfl|refine And.intro ?_ ?_)) ?_
 rintro⟨i,b⟩ ⟨hi,hI⟩
 simp only at hi hI
 refine Spl.of (fun h2=>?_) (fun h2=>?_)
 ·have hlt:i<acts.length:=by have:=of_decide_eq_true h2;simp at this;omega
  obtain⟨a,ha⟩:∃a,acts[i]?=some a:=⟨_,List.getElem?_eq_getElem hlt⟩
  have hrow:(acts.map baD)[i]?=some (baD a):=by rw[List.getElem?_map,ha];rfl
  have hok:=hacts a (List.mem_of_getElem? ha)
  obtain⟨ak,t,as_,k,c,tk,ot⟩:=a
  obtain⟨hak,hc⟩:=hok
  simp only at hak hc
  (repeat (first|refine Spl.t rfl ?_|refine Spl.f rfl ?_))
  refine IdxP.of _ (by omega) (by rw[Int.toNat_natCast];exact hrow) ?_
  (repeat (first|refine Spl.t rfl ?_|refine Spl.f rfl ?_))
  refine aa (BL ak t as_ k c tk ot n) (fun _ _=>rfl) rfl rfl rfl ?_
  (repeat (first|refine Spl.t rfl ?_|refine Spl.f rfl ?_))
  refine Spl.of (fun h3=>?_) (fun h3=>?_)
  ·(repeat (first|refine Spl.t rfl ?_|refine Spl.f rfl ?_))
   refine aa cD (fun _ _=>rfl) rfl rfl rfl ?_
   (repeat (first|refine Spl.t rfl ?_|refine Spl.f rfl ?_))
   exact FinP.open rfl rfl
  rw[Bool.not_eq_false',Bool.and_eq_true,Bool.and_eq_true,Bool.and_eq_true,Bool.and_eq_true,Bool.and_eq_true,decide_eq_true_iff,decide_eq_true_iff,decide_eq_true_iff,decide_eq_true_iff,decide_eq_true_iff,decide_eq_true_iff]at h3
  obtain⟨q1,q2,q3,q4,q5,q6⟩:=h3
  obtain⟨s,rfl⟩:∃m:Nat,as_=(m:Int):=⟨as_.toNat,by omega⟩
  obtain⟨m,rfl⟩:∃m:Nat,ak=(m:Int):=⟨ak.toNat,by omega⟩
  have hs:s<n:=by omega
  have hdo:=Ez hI (by omega) q1 hs q5 (by omega) c hc.2 tk ot m
  have hI':=hI.act q1 hs k c tk ot m
  generalize cY b t s k c tk ot m=b' at hdo hI'
  (repeat (first|refine Spl.t rfl ?_|refine Spl.f rfl ?_))
  refine RegP.mixE 0 6 [] rfl (by decide+kernel) ?_
  (repeat (first|refine Spl.t rfl ?_|refine Spl.f rfl ?_))
  refine aa hdo (fun _ _=>rfl) rfl rfl rfl ?_
  (repeat (first|refine Spl.t rfl ?_|refine Spl.f rfl ?_))
  refine aa (Ax hI' (by omega)) (fun _ _=>rfl) rfl rfl rfl ?_
  (repeat (first|refine Spl.t rfl ?_|refine Spl.f rfl ?_))
  refine aa (Ax hI (by omega)) (fun _ _=>rfl) rfl rfl rfl ?_
  (repeat (first|refine Spl.t rfl ?_|refine Spl.f rfl ?_))
  exact⟨(i+1,b'),⟨by simp only;omega,hI'⟩,by simp only;omega,⟨ao (ah _ (by omega) (by omega)),trivial⟩,(by repeat' (first|exact trivial|exact rfl|refine And.intro ?_ ?_)),(by repeat' (first|exact trivial|exact rfl|refine And.intro ?_ ?_)),(by repeat' (first|exact trivial|exact rfl|refine And.intro ?_ ?_))⟩
 ·(repeat (first|refine Spl.t rfl ?_|refine Spl.f rfl ?_))
  refine aa cD (fun _ _=>rfl) rfl rfl rfl ?_
  (repeat (first|refine Spl.t rfl ?_|refine Spl.f rfl ?_))
  exact FinP.open rfl rfl
theorem ED (cs:List D)(h:(Ty.st [.int .u8,.int .i64,.int .i64,.int .i64,.st [.int .i64,.int .i64,.int .i32,.st [.int .i64,.st [.int .i64,.int .i64],.st [.int .i64,.int .i64],.int .i32],.st [.int .i64,.int .i64]],.int .i64,.int .i64]).ok cs):∃x:BA,cs=baD x∧FR x:=by
 obtain⟨_,_,rfl,⟨k,rfl,wk⟩,⟨_,_,rfl,⟨t,rfl,_⟩,⟨_,_,rfl,⟨s,rfl,_⟩,⟨_,_,rfl,⟨sl,rfl,_⟩,⟨_,_,rfl,⟨_,_,rfl,⟨c0,rfl,_⟩,⟨_,_,rfl,⟨c1,rfl,w⟩,⟨_,_,rfl,⟨c2,rfl,_⟩,⟨_,_,rfl,⟨_,_,rfl,⟨c3,rfl,_⟩,⟨_,_,rfl,⟨_,_,rfl,⟨c4,rfl,_⟩,⟨_,_,rfl,⟨c5,rfl,_⟩,rfl⟩⟩,⟨_,_,rfl,⟨_,_,rfl,⟨c6,rfl,_⟩,⟨_,_,rfl,⟨c7,rfl,_⟩,rfl⟩⟩,⟨_,_,rfl,⟨c8,rfl,_⟩,rfl⟩⟩⟩⟩,⟨_,_,rfl,⟨_,_,rfl,⟨c9,rfl,_⟩,⟨_,_,rfl,⟨c10,rfl,_⟩,rfl⟩⟩,rfl⟩⟩⟩⟩⟩,⟨_,_,rfl,⟨tk,rfl,_⟩,⟨_,_,rfl,⟨ot,rfl,_⟩,rfl⟩⟩⟩⟩⟩⟩⟩:=h
 exact⟨⟨k,t,s,sl,⟨c0,c1,c2,⟨c3,⟨c4,c5⟩,⟨c6,c7⟩,c8⟩,⟨c9,c10⟩⟩,tk,ot⟩,rfl,(DH wk).1,BV w⟩
end Go.Proofs.E
end
