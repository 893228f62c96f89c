/- Maps of ids: the law's example; is a map the document's. -/
import Derived.Test.YthfemmcodfajaaaDoorE24
set_option linter.unusedVariables false
set_option linter.unusedSimpArgs false
open Go Go.Gv
attribute [local irreducible] Go.Gv.WJ Go.Gv.OpJ Go.Gv.QJ Go.Gv.Spl Go.Gv.Req Go.Gv.IdxP Go.Gv.RegP Go.Gv.FinP Go.Gv.QuietP Go.Gv.CellP Go.Gv.CellsP Go.Gv.ArrP Go.Gv.ArrsP Go.Gv.DropP Go.Gv.ByteP Go.Gv.StoreP
set_option maxRecDepth 100000
namespace Go.Proofs.E
attribute [local irreducible] elems
def nPut (p : PT) (n : Int) (a : ID) : Int := if (getM p a).isSome = true then n else n + 1
theorem isM_put {p : PT} {n : Int} {M : List IE} (h : isM p n M) {a : ID} (ha : mayI a = true) (e : EN) : isM (PT.put 8 (keyI a) e p) (nPut p n a) (insM a e M) := put_is h ha e
theorem PutIs_c {p : PT} {n : Int} {M : List IE} (h : isM p n M) (hl : M.length ≤ 1000000) (a : ID) (e : EN) (ha : mayI a = true) : Cv 28 [mapv p n, idv a, env e] (.tup [mapv (PT.put 8 (keyI a) e p) (nPut p n a), bv true]) := by
  have := PutM_c p n a e h.wf (by rw [h.len]; omega) (by rw [h.len]; omega)
  rw [if_pos ha] at this
  exact this
theorem PutNo_c {p : PT} {n : Int} {M : List IE} (h : isM p n M) (hl : M.length ≤ 1000000) (a : ID) (e : EN) (ha : ¬ mayI a = true) : Cv 28 [mapv p n, idv a, env e] (.tup [mapv p n, bv false]) := by
  have := PutM_c p n a e h.wf (by rw [h.len]; omega) (by rw [h.len]; omega)
  rw [if_neg ha] at this
  exact this
theorem GetIs_c {p : PT} {n : Int} {M : List IE} (h : isM p n M) (a : ID) : Cv 32 [mapv p n, idv a] (getv (alook a M)) := by
  have := Get4_c p n a h.wf
  rw [getM_is h] at this; exact this
theorem LastIs_c {p : PT} {n : Int} {M : List IE} (h : isM p n M) : Cv 50 [mapv p n] (idv (lastI M)) := by
  have := Last4_c p n h.wf
  rw [last_is h] at this; exact this
theorem iterIs {p : PT} {n : Int} {M : List IE} (h : isM p n M) : Iter tab Tryd.prog 54 [.d (mapD p n)] (M.map ieA) := by
  have := all4_iter p n h.wf
  rw [all_is h] at this; exact this
def txt4 (M : List IE) : List UInt8 := M.foldl (fun s x => s ++ (textI x.1 ++ (Utf8.encode x.2.ch).data.toList)) []
theorem txt4_snoc (M : List IE) (x : IE) : txt4 (M ++ [x]) = txt4 M ++ (textI x.1 ++ (Utf8.encode x.2.ch).data.toList) := by simp [txt4]
theorem Awake4_c : Cv 27 [] (bv true) := by
  have h1 := isM_put isM_nil (a := ⟨2, 1⟩) rfl ⟨⟨0, 0⟩, 98, false⟩
  have h2 := isM_put h1 (a := ⟨1, 3⟩) rfl ⟨⟨0, 0⟩, 97, false⟩
  have p1 := PutIs_c isM_nil (by simp) ⟨2, 1⟩ ⟨⟨0, 0⟩, 98, false⟩ rfl
  have p2 := PutIs_c h1 (by simp [insM]) ⟨1, 3⟩ ⟨⟨0, 0⟩, 97, false⟩ rfl
  have it := iterIs h2
  have la := LastIs_c h2
  obtain ⟨M, hM⟩ : ∃ M, M = insM ⟨1, 3⟩ ⟨⟨0, 0⟩, 97, false⟩ (insM ⟨2, 1⟩ ⟨⟨0, 0⟩, 98, false⟩ []) := ⟨_, rfl⟩
  rw [← hM] at it la h2
  generalize PT.put 8 (keyI ⟨2, 1⟩) ⟨⟨0, 0⟩, 98, false⟩ PT.nil = q1 at *
  generalize nPut PT.nil 0 ⟨2, 1⟩ = n1 at *
  generalize PT.put 8 (keyI ⟨1, 3⟩) ⟨⟨0, 0⟩, 97, false⟩ q1 = q2 at *
  generalize nPut q1 n1 ⟨1, 3⟩ = n2 at *
  refine Ct.of_vc Tryd.f27 Tryd.func27 rfl rfl fun w H B g0 => ?_
  refine OpJ.callV p1 (fun _ _ => rfl) rfl rfl rfl ?_
  (repeat (first | refine Spl.t rfl ?_ | refine Spl.f rfl ?_))
  refine OpJ.callV p2 (fun _ _ => rfl) rfl rfl rfl ?_
  (repeat (first | refine Spl.t rfl ?_ | refine Spl.f rfl ?_))
  refine OpJ.callV (All4_c q2 n2) (fun _ _ => rfl) rfl rfl rfl ?_
  (repeat (first | refine Spl.t rfl ?_ | refine Spl.f rfl ?_))
  refine OpJ.callV (All4_c q2 n2) (fun _ _ => rfl) rfl rfl rfl ?_
  (repeat (first | refine Spl.t rfl ?_ | refine Spl.f rfl ?_))
  have ht : (txt4 M).length ≤ 100 := by rw [hM]; decide +kernel
  refine WJ.rangeK ieA M (V := List UInt8) (fun v => [(4, .cells [sv v])]) [4] (fun pre v => v = txt4 pre) (fun _ _ _ => False) [] it rfl rfl (.fn _ _) rfl (fun _ _ => rfl) rfl rfl (fun _ => rfl) (by repeat' (first | exact trivial | exact rfl | refine And.intro ?_ ?_)) rfl ?_ ?_ ?_
  · intro l pre x post v hL hI w0 H0 B0 g1
    intro w0 H0 B0 g1
    have hlen : (txt4 pre).length + (textI x.1 ++ (Utf8.encode x.2.ch).data.toList).length ≤ 100 := by
      rw [hL, txt4, List.foldl_append, List.foldl_cons] at ht
      have hgrow : ∀ (P : List IE) (s : List UInt8), s.length ≤ (P.foldl (fun s x => s ++ (textI x.1 ++ (Utf8.encode x.2.ch).data.toList)) s).length := fun P => by
        induction P with
        | nil => intro s; exact Nat.le_refl _
        | cons y P ih => intro s; exact Nat.le_trans (by simp) (ih _)
      have := Nat.le_trans (hgrow post _) ht
      rw [List.length_append] at this
      exact this
    rw [List.length_append] at hlen
    refine RegP.of rfl (by decide +kernel) ?_
    refine QuietP.of (QJ.call (String_c x.1) (fun _ _ => rfl) rfl rfl) ?_
    refine Req.of (by show (textI x.1).length + (Utf8.encode x.2.ch).data.toList.length ≤ _; omega) ?_
    refine Req.of (by subst hI; show (txt4 pre).length + (textI x.1 ++ (Utf8.encode x.2.ch).data.toList).length ≤ _; rw [List.length_append]; omega) ?_
    exact ⟨txt4 (pre ++ [x]), rfl, ⟨congrArg (fun l => some (Ent.cells [sv l])) (by rw [txt4_snoc, hI]), (by repeat' (first | exact trivial | exact rfl | refine And.intro ?_ ?_))⟩⟩
  · intro v hI
    subst hI
    refine OpJ.callV Awake_c (fun _ _ => rfl) rfl rfl rfl ?_
    (repeat (first | refine Spl.t rfl ?_ | refine Spl.f rfl ?_))
    refine Spl.t (by rw [hM]; decide +kernel) ?_
    (repeat (first | refine Spl.t rfl ?_ | refine Spl.f rfl ?_))
    refine OpJ.callV la (fun _ _ => rfl) rfl rfl rfl ?_
    (repeat (first | refine Spl.t rfl ?_ | refine Spl.f rfl ?_))
    refine OpJ.qu (O.eqT 3 rfl rfl rfl rfl rfl eqI_ok eqI_g (eqI (lastI M) ⟨2, 1⟩)) rfl ?_
    (repeat (first | refine Spl.t rfl ?_ | refine Spl.f rfl ?_))
    exact FinP.open rfl (congrArg bv (by rw [hM]; decide +kernel))
  · intro c p v h
    exact h.elim
theorem eqEN (a b : EN) : eqT Tryd.prog 4 52 [.int .i64 a.a.c, .int .i64 a.a.s, .int .i32 a.ch, .bool a.dead] [.int .i64 b.a.c, .int .i64 b.a.s, .int .i32 b.ch, .bool b.dead] = some (decide (a = b)) := by
  show some ((decide (a.a.c = b.a.c) && (decide (a.a.s = b.a.s) && true)) && (decide (a.ch = b.ch) && ((a.dead == b.dead) && true))) = _
  obtain ⟨⟨a1, a2⟩, a3, a4⟩ := a
  obtain ⟨⟨b1, b2⟩, b3, b4⟩ := b
  simp [Bool.and_assoc, and_assoc]
  cases a4 <;> cases b4 <;> simp
theorem eqRE (x y : IE) : eqT Tryd.prog 4 60 [.int .i64 x.1.c, .int .i64 x.1.s, .int .i64 x.2.a.c, .int .i64 x.2.a.s, .int .i32 x.2.ch, .bool x.2.dead] [.int .i64 y.1.c, .int .i64 y.1.s, .int .i64 y.2.a.c, .int .i64 y.2.a.s, .int .i32 y.2.ch, .bool y.2.dead] = some (decide (x = y)) := by
  show some ((decide (x.1.c = y.1.c) && (decide (x.1.s = y.1.s) && true)) && ((decide (x.2.a.c = y.2.a.c) && (decide (x.2.a.s = y.2.a.s) && true)) && (decide (x.2.ch = y.2.ch) && ((x.2.dead == y.2.dead) && true)))) = _
  obtain ⟨⟨p, q⟩, ⟨a1, a2⟩, a3, a4⟩ := x
  obtain ⟨⟨p', q'⟩, ⟨b1, b2⟩, b3, b4⟩ := y
  simp [Bool.and_assoc, and_assoc]
  cases a4 <;> cases b4 <;> simp
theorem eqEN_ok : eqOk Tryd.prog 4 52 = true := by kernel_rfl
theorem eqEN_g : Tryd.prog.eqGuardType Tryd.prog.depth 52 = false := by kernel_rfl
theorem eqRE_ok : eqOk Tryd.prog 4 60 = true := by kernel_rfl
theorem eqRE_g : Tryd.prog.eqGuardType Tryd.prog.depth 60 = false := by kernel_rfl
theorem alook_mem {M : List IE} (h : upM M) {x : IE} (hx : x ∈ M) : alook x.1 M = some x.2 := by
  induction M with
  | nil => simp at hx
  | cons y l ih =>
    obtain ⟨h1, h2⟩ := List.pairwise_cons.1 h
    rw [alook]
    rcases List.mem_cons.1 hx with rfl | hx
    · rw [if_pos rfl]
    · rw [if_neg (fun e => less_irr y.1 (by have := h1 x hx; rw [e] at this; exact this)), ih h2 hx]
theorem Is4_c {p : PT} {n : Int} {M : List IE} (h : isM p n M) (hl : M.length ≤ 1000000) (N : List IE) (hN : N.length ≤ 1000000) : Cv 34 [mapv p n, .d (.sl 6 (N.map reD))] (bv (decide (M = N))) := by
  have it := iterIs h
  have la := LastIs_c h
  refine Ct.of_vc Tryd.f34 Tryd.func34 rfl rfl fun w H B g0 => ?_
  refine OpJ.callV (All4_c p n) (fun _ _ => rfl) rfl rfl rfl ?_
  (repeat (first | refine Spl.t rfl ?_ | refine Spl.f rfl ?_))
  refine OpJ.callV (All4_c p n) (fun _ _ => rfl) rfl rfl rfl ?_
  (repeat (first | refine Spl.t rfl ?_ | refine Spl.f rfl ?_))
  refine WJ.rangeK ieA M (V := Nat) (fun v => [(5, .cells [iv v]), (4, .cells [bv false])]) [4, 5] (fun pre v => v = pre.length ∧ pre.length ≤ N.length ∧ pre = N.take pre.length) (fun c _ _ => c = .ret ∧ M ≠ N) 0 it rfl rfl (.fn _ _) rfl (fun _ _ => rfl) rfl rfl (fun _ => rfl) (by repeat' (first | exact trivial | exact rfl | refine And.intro ?_ ?_)) ⟨rfl, by simp, by simp⟩ ?_ ?_ ?_
  · intro l pre x post v hL hI w0 H0 B0 g1
    obtain ⟨hv, hpl, hpe⟩ := hI
    intro w0 H0 B0 g1
    have hx : x ∈ M := by rw [hL]; simp
    have hg := GetIs_c h x.1
    rw [alook_mem h.up hx] at hg
    have hlp : pre.length < M.length := by rw [hL]; simp
    refine OpJ.callV hg (fun _ _ => rfl) rfl rfl rfl ?_
    (repeat (first | refine Spl.t rfl ?_ | refine Spl.f rfl ?_))
    refine RegP.of rfl (by decide +kernel) ?_
    refine Spl.of (fun h1 => ?_) (fun h1 => ?_)
    · have hge : N.length ≤ v := by have := of_decide_eq_true h1; simp at this; omega
      (repeat (first | refine Spl.t rfl ?_ | refine Spl.f rfl ?_))
      exact ⟨v, ⟨rfl, fun e => by rw [← e] at hge; omega⟩, (by repeat' (first | exact trivial | exact rfl | refine And.intro ?_ ?_))⟩
    · have hlt : v < N.length := by have := of_decide_eq_false h1; simp at this; omega
      have hy : N[v]? = some N[v] := by simp
      (repeat (first | refine Spl.t rfl ?_ | refine Spl.f rfl ?_))
      refine QuietP.of (QJ.call (Of4_c x.1 x.2) (fun _ _ => rfl) rfl rfl) ?_
      (repeat (first | refine Spl.t rfl ?_ | refine Spl.f rfl ?_))
      refine IdxP.of (reD N[v]) (by omega) (by simp [hy]) ?_
      (repeat (first | refine Spl.t rfl ?_ | refine Spl.f rfl ?_))
      refine QuietP.of (O.neT 4 rfl rfl rfl rfl rfl eqRE_ok eqRE_g (eqRE x N[v])) ?_
      (repeat (first | refine Spl.t rfl ?_ | refine Spl.f rfl ?_))
      refine Spl.of (fun h2 => ?_) (fun h2 => ?_)
      · have hne : x ≠ N[v] := by simpa using h2
        (repeat (first | refine Spl.t rfl ?_ | refine Spl.f rfl ?_))
        exact ⟨v, ⟨rfl, fun e => hne (by
          have h3 : M[v]? = some x := by rw [hL, hv]; simp
          rw [e, hy] at h3; cases h3; rfl)⟩, (by repeat' (first | exact trivial | exact rfl | refine And.intro ?_ ?_))⟩
      · have he : x = N[v] := by simpa using h2
        (repeat (first | refine Spl.t rfl ?_ | refine Spl.f rfl ?_))
        refine QuietP.of (O.neT 4 rfl rfl rfl rfl rfl eqEN_ok eqEN_g (eqEN x.2 x.2)) ?_
        (repeat (first | refine Spl.t rfl ?_ | refine Spl.f rfl ?_))
        refine Spl.f (by simp) ?_
        (repeat (first | refine Spl.t rfl ?_ | refine Spl.f rfl ?_))
        exact ⟨v + 1, ⟨by simp [hv], by simp; omega, by
          rw [List.length_append, List.length_singleton, take_snoc (x := x) (by rw [← hv, hy, ← he]), ← hpe]⟩, ⟨congrArg (fun z : Int => some (Ent.cells [iv z])) (by rw [wrap_id _ (by omega) (by omega)]; rfl), (by repeat' (first | exact trivial | exact rfl | refine And.intro ?_ ?_))⟩⟩
  · intro v hI
    obtain ⟨hv, hpl, hpe⟩ := hI
    have hdec : decide (M = N) = decide ((v : Int) = ((N.map reD).length : Int)) := by
      by_cases e : M = N
      · rw [decide_eq_true e, decide_eq_true]; rw [hv, e]; simp
      · rw [decide_eq_false e, decide_eq_false]
        intro h2
        apply e
        rw [hpe, List.take_of_length_le]
        simp at h2; omega
    have hlast : ∀ i : ID, (M = N → i = lastI N) → ∀ b : Bool, (decide ((v : Int) = ((N.map reD).length : Int)) = true → b = decide (lastI M = i)) → (decide ((v : Int) = ((N.map reD).length : Int)) && b) = decide (M = N) := fun i hi b hb => by
      rw [hdec]
      cases hd : decide ((v : Int) = ((N.map reD).length : Int)) with
      | false => rfl
      | true =>
        have e : M = N := of_decide_eq_true (hdec.trans hd)
        rw [hb hd, hi e, e]; simp
    refine Spl.of (fun h1 => ?_) (fun h1 => ?_)
    · have hlt : 0 < N.length := by have := of_decide_eq_true h1; simp at this; exact this
      have hy : N[N.length - 1]? = some N[N.length - 1] := by simp
      have hw : IntKind.i64.wrap (((N.map reD).length : Int) - 1) = ((N.length - 1 : Nat) : Int) := by
        rw [List.length_map, wrap_id _ (by omega) (by omega)]; omega
      have hlN : M = N → N[N.length - 1].1 = lastI N := fun _ => by
        unfold lastI
        rw [List.getLast?_eq_getElem?, hy]
      (repeat (first | refine Spl.t rfl ?_ | refine Spl.f rfl ?_))
      refine IdxP.of (reD N[N.length - 1]) (by rw [hw]; omega) (by rw [hw]; simp [hy]) ?_
      (repeat (first | refine Spl.t rfl ?_ | refine Spl.f rfl ?_))
      refine RegP.of rfl (by decide +kernel) ?_
      refine Spl.of (fun h2 => ?_) (fun h2 => ?_)
      · (repeat (first | refine Spl.t rfl ?_ | refine Spl.f rfl ?_))
        refine QuietP.of (QJ.call (Len4_c p.d n) (fun _ _ => rfl) rfl rfl) ?_
        (repeat (first | refine Spl.t rfl ?_ | refine Spl.f rfl ?_))
        refine Spl.t (by rw [h.len, hv]; simp) ?_
        (repeat (first | refine Spl.t rfl ?_ | refine Spl.f rfl ?_))
        refine QuietP.of (QJ.call la (fun _ _ => rfl) rfl rfl) ?_
        (repeat (first | refine Spl.t rfl ?_ | refine Spl.f rfl ?_))
        refine QuietP.of (O.eqT 3 rfl rfl rfl rfl rfl eqI_ok eqI_g (eqI (lastI M) N[N.length - 1].1)) ?_
        (repeat (first | refine Spl.t rfl ?_ | refine Spl.f rfl ?_))
        refine FinP.open rfl (congrArg bv ?_)
        rw [← hlast _ hlN _ fun _ => rfl, h2, Bool.true_and]
      · (repeat (first | refine Spl.t rfl ?_ | refine Spl.f rfl ?_))
        refine FinP.open rfl (congrArg bv ?_)
        rw [hdec, h2]
    · have hn0 : N = [] := by
        have := of_decide_eq_false h1; simp at this; exact this
      subst hn0
      have hm0 : M = [] := by rw [hpe]; simp
      subst hm0
      (repeat (first | refine Spl.t rfl ?_ | refine Spl.f rfl ?_))
      refine RegP.of rfl (by decide +kernel) ?_
      refine Spl.t (by rw [hv]; rfl) ?_
      (repeat (first | refine Spl.t rfl ?_ | refine Spl.f rfl ?_))
      refine QuietP.of (QJ.call (Len4_c p.d n) (fun _ _ => rfl) rfl rfl) ?_
      (repeat (first | refine Spl.t rfl ?_ | refine Spl.f rfl ?_))
      refine Spl.t (by rw [h.len, hv]; simp) ?_
      (repeat (first | refine Spl.t rfl ?_ | refine Spl.f rfl ?_))
      refine QuietP.of (QJ.call la (fun _ _ => rfl) rfl rfl) ?_
      (repeat (first | refine Spl.t rfl ?_ | refine Spl.f rfl ?_))
      refine QuietP.of (O.eqT 3 rfl rfl rfl rfl rfl eqI_ok eqI_g (eqI (lastI []) ⟨0, 0⟩)) ?_
      (repeat (first | refine Spl.t rfl ?_ | refine Spl.f rfl ?_))
      exact FinP.open rfl rfl
  · intro c p v hI
    obtain ⟨rfl, hne⟩ := hI
    rw [decide_eq_false hne]
    exact FinP.open rfl rfl
end Go.Proofs.E
