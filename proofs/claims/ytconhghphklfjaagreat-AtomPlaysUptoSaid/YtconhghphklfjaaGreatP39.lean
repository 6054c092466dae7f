/- Whatever groups are done and dropped, written out and checkpointed between, each page is as the groups that were done made it; the conditions are those of the given statement, for arguments that a machine can hold. Part 39 of 49. -/
import Derived.Test.YtconhghphklfjaaGreatP38
namespace Go.Proofs.YtconhghphklfjaaGreat.Am
open Go
inductive ChR (now : List (Int × List Nat)) : List Int → Eng → Int → List Chg → Eng → Prop where
 | nil (ε : Eng) : ChR now [] ε 0 [] ε
 | err (n : Int) (l : List Int) (ε : Eng) (e : Int) (b : List Nat) (ε' : Eng) (hr : RdR ε n e b ε') (he : e ≠ 0) : ChR now (n :: l) ε e [] ε'
 | part (n : Int) (l : List Int) (ε : Eng) (was b : List Nat) (ε' : Eng) (c : List Chg) (e : Int) (cs : List Chg) (ε'' : Eng) (hr : RdR ε n 0 was ε') (hb : lookL n now = some b) (hd : (lookL n ε'.1.dirty).isSome = true) (hc : RgF n was b c) (hl : c.length ≤ 512) (ht : ChR now l ε' e cs ε'') : ChR now (n :: l) ε e (c ++ cs) ε''
 | whole (n : Int) (l : List Int) (ε : Eng) (was b : List Nat) (ε' : Eng) (e : Int) (cs : List Chg) (ε'' : Eng) (hr : RdR ε n 0 was ε') (hb : lookL n now = some b) (hd : (lookL n ε'.1.dirty).isSome = false) (ht : ChR now l ε' e cs ε'') : ChR now (n :: l) ε e (⟨n, 0, true, b⟩ :: cs) ε''
theorem ChR.ok3 {now : List (Int × List Nat)} {l : List Int} {ε ε' : Eng} {e : Int} {cs : List Chg} (hr : ChR now l ε e cs ε') (h : EOk3 ε) : EOk3 ε' := by
 induction hr with
 | nil ε => exact h
 | err n l ε e b ε' hr he => exact hr.ok3 h
 | part n l ε was b ε' c e cs ε'' hr hb hd hc hl ht ih => exact ih (hr.ok3 h)
 | whole n l ε was b ε' e cs ε'' hr hb hd ht ih => exact ih (hr.ok3 h)
theorem ChR.pot {now : List (Int × List Nat)} {l : List Int} {ε ε' : Eng} {e : Int} {cs : List Chg} (hr : ChR now l ε e cs ε') : Am.pot ε' ≤ Am.pot ε := by
 induction hr with
 | nil ε => exact Nat.le_refl _
 | err n l ε e b ε' hr he => exact hr.pot
 | part n l ε was b ε' c e cs ε'' hr hb hd hc hl ht ih => exact Nat.le_trans ih hr.pot
 | whole n l ε was b ε' e cs ε'' hr hb hd ht ih => exact Nat.le_trans ih hr.pot
theorem res2 {P : Program} {E : List (Nat × V)} {h : H} {a b : Nat} {v w : V} (h1 : look E a = some v) (h2 : look E b = some w) : resLE P E h [.tmp a, .tmp b] = some (.tup [v, w]) := by simp only [resLE, mapO, resE, h1, h2]
section
variable {told : Nat → Option (List V → H → Option (V × H))} {h : H} {S : List Assn} {X Y : Assn} {r k q p fid a g chk : Nat} {op v x u wh di : V} {l b was data : List Nat} {now : List (Int × List Nat)} {over : Bool} {ε : Eng}
theorem keysD_ct (hT : W told) {id : Nat} (s : Sat h S) : Call ⟨Tryz.prog, told⟩ 51 [.map id] h fun v h' => ∃ b, v = .fn (.func 92) [] [.ptr b 0] ∧ Sat h' (pt b (.cells 1 [.map id] false) :: S) := by
 refine Call.of_wp (hT.free _ rfl) Tryz.func51 rfl rfl (zg rfl ?_)
 refine WPs.newS s rfl rfl rfl (o_box rfl rfl) (fun p1 h s => ?_)
 dsimp only [V.cells, List.length_cons, List.length_nil, Nat.reduceAdd] at s
 refine za rfl (zv (zg rfl (zo rfl (o_mkf rfl rfl) (za rfl (zv ?_)))))
 refine WP.ret ⟨trivial, _, rfl, ?_⟩
 exact ⟨_, rfl, s⟩
theorem writes_ct (hT : W told) (s : Sat h (isGp g a now over :: S)) (hm : now.length ≤ 1048576) (hk : ∀ n ∈ now.map (·.1), (Lit.int .i64 n).wf = true) :
  Call ⟨Tryz.prog, told⟩ 85 [.ptr g 0] h fun v h' => Sat h' (.arr 1 v (intsV (keysS now)) :: isGp g a now over :: S) := by
 obtain ⟨nv, s⟩ := isGp_iff.1 s
 obtain ⟨nid, rfl⟩ := mapV_v s (j := 1) rfl
 refine Call.of_wp (hT.free _ rfl) Tryz.func85 rfl rfl (zg rfl (za rfl (zv (zg rfl (zm rfl (zn rfl (zf rfl (fa88_1 _ _) (zl rfl (by exact s.ld (k := 0) rfl ag86 rfl) ?_))))))))
 refine WPs.call rfl rfl rfl rfl rfl rfl rfl (keysD_ct hT s) ?_
 rintro v h ⟨b, rfl, s⟩
 refine WPs.call rfl rfl rfl rfl rfl rfl rfl (sorted_ct hT (s.bringS [0, 1]) (by decide) hm hk) ?_
 intro kv h s
 dsimp only [bringA, getA, delA] at s
 refine za rfl (zv ?_)
 refine WP.ret ⟨trivial, _, rfl, ?_⟩
 exact (isGp_iff.2 ⟨.map nid, (s.bringS [3, 2, 0]).del 3⟩).bringS [1]
noncomputable def cgL : Code := pathC [1, 1, 0, 1, 0, 0] ((Tryz.f47.body).getD .skip)
theorem changes_loop (hT : W told) {ks : List Int} {kv : V} (hks : ks.length ≤ 65536) (hin : ∀ n ∈ ks, (lookL n now).isSome = true) (hnow : ∀ e ∈ now, e.2.length = 512) : ∀ (j i : Nat) (acc : List Chg) (av : V) (cs : List V) (ε : Eng) (h : H) (E : List (Nat × V)) (Q : Ex → List (Nat × V) → H → Prop), i + j = ks.length →
  EOk3 ε → pot ε ≤ 268435456 → acc.length ≤ 512 * i →
  Sat h (.arr 4 av cs :: chgA cs acc :: isGp g a now over :: isSt a p q r op data chk :: isPl r p q ε.1 :: isLg q p ε.2.1 :: isDk p ε.2.2 :: .arr 1 kv (intsV ks) :: S) →
  Has E [(0, .ptr g 0), (4, av), (13, kv), (14, .int .i64 ks.length), (15, .int .i64 i)] →
  (∀ e c ε' E' h', ChR now (ks.drop i) ε e c ε' → e ≠ 0 → look E' 2 = some .sl0 → look E' 3 = some (.int .i64 e) → Sat h' (isGp g a now over :: isSt a p q r op data chk :: isPl r p q ε'.1 :: isLg q p ε'.2.1 :: isDk p ε'.2.2 :: S) → Q .ret E' h') →
  (∀ c ε' E' h' av' cs', ChR now (ks.drop i) ε 0 c ε' → acc.length + c.length ≤ 512 * ks.length → Has E' [(4, av')] → Sat h' (.arr 4 av' cs' :: chgA cs' (acc ++ c) :: isGp g a now over :: isSt a p q r op data chk :: isPl r p q ε'.1 :: isLg q p ε'.2.1 :: isDk p ε'.2.2 :: S) → Q (.exit 0) E' h') →
  WP ⟨Tryz.prog, told⟩ 65 (.loop cgL) E h Q := by
 intro j
 induction j with
 | zero =>
  intro i acc av cs ε h E Q hj hε hw hac s hE hr hx
  refine WP.loop (WP.has hE (zg rfl (WPs.opF rfl rfl rfl (o_bin rfl rfl bLss) (by simp <;> omega) ?_)))
  refine zv (zw (zj rfl (WP.exit ?_)))
  rw [List.drop_eq_nil_of_le (by omega)] at hx
  have s1 := s.del 7
  dsimp only [delA] at s1
  refine hx [] ε _ _ av cs (.nil ε) (by simp; omega) ⟨rfl, trivial⟩ ?_
  rw [List.append_nil]
  exact s1
 | succ j ih =>
  intro i acc av cs ε h E Q hj hε hw hac s hE hr hx
  have hn : ks[i]? = some (ks[i]'(by omega)) := List.getElem?_eq_getElem _
  have hmem : ks[i]'(by omega) ∈ ks := List.getElem_mem _
  have hdrop : ks.drop i = ks[i]'(by omega) :: ks.drop (i + 1) := List.drop_eq_getElem_cons (by omega)
  generalize (ks[i]'(by omega)) = n at hn hmem hdrop
  have hc : (intsV ks)[i]? = some (.int .i64 n) := by simp [intsV, hn]
  obtain ⟨b, hb⟩ := Option.isSome_iff_exists.1 (hin n hmem)
  have hb512 := hnow _ (lookL_mem hb)
  simp only at hb512
  rw [hdrop] at hr hx
  obtain ⟨id, off, e1, e2⟩ := arr1_at (P := Tryz.prog) s (k := 7) rfl hc Tryz.underlying98 sz3
  refine WP.loop (WP.has hE (zg rfl (WPs.opT rfl rfl rfl (o_bin rfl rfl bLss) (by simp <;> omega) ?_)))
  refine zv (zw (zi rfl (WP.skip (zw (WP.block (zg rfl (zo rfl (o_ia (r := .ptr id off) rfl rfl e1) (zl rfl (e2 _ ag3) ?_))))))))
  obtain ⟨nv, s⟩ := isGp_iff.1 (s.bringS [2])
  dsimp only [bringA, getA, delA] at s
  refine za rfl (zv (zg rfl (zm rfl (zn rfl (zf rfl (fa88_0 _ _) (zl rfl (by exact s.ld (k := 0) rfl ag24 rfl) ?_))))))
  refine zm rfl (WPs.call rfl rfl rfl rfl rfl rfl rfl (sread_ct (n := n) hT (s.bringS [4, 4, 4, 4]) hε.ok hε.pins (Nat.le_trans pot_wait hw)) ?_)
  rintro v h ⟨e, w, ε', hrd, (⟨he, rfl, s⟩ | ⟨rfl, u, rfl, s⟩)⟩
  ·dsimp only [bringA, getA, delA] at s
   refine zm rfl (ze rfl (ze rfl (za rfl (za rfl (zv (zw (zg rfl (zm rfl (WPs.opT rfl rfl rfl (o_bin rfl rfl bNeq) (by simp; exact he) ?_)))))))))
   refine zv (zi rfl (zg rfl (zm rfl (za rfl (za rfl (zv (WP.ret (hr e [] ε' _ _ (.err n _ ε e w ε' hrd he) he rfl rfl ?_))))))))
   have s := isGp_iff.2 ⟨nv, s.bringS [4, 4]⟩
   dsimp only [bringA, getA, delA] at s
   exact ((s.del 7).del 6).del 5
  ·dsimp only [bringA, getA, delA] at s
   have hε' := hrd.ok3 hε
   have hw' := Nat.le_trans hrd.pot hw
   have hlen := hrd.len hε
   refine zm rfl (ze rfl (ze rfl (za rfl (za rfl (zv (zw (zg rfl (zm rfl (WPs.opF rfl rfl rfl (o_bin rfl rfl bNeq) (rfl) ?_)))))))))
   have s := s.freezeBuf
   have s := s.bringS [5, 5, 1, 1, 1, 1, 1, 1, 1, 0]
   dsimp only [bringA, getA, delA] at s
   rcases mapV_look (n := n) (fun _ _ => Pers.rob _ _) (s.bringS [1]) Tryz.underlying86 Tryz.underlying3 zt32 with ⟨g1, g2, _⟩ | ⟨nw, b', g1, _, g2, s2⟩
   ·rw [hb] at g1; cases g1
   rw [hb] at g1
   have := Option.some.inj g1
   subst this
   refine zv (zj rfl (WP.skip (zg rfl (zm rfl (zn rfl (zf rfl (fa88_1 _ _) (zl rfl (by exact s.ld (k := 0) rfl ag86 rfl) ?_)))))))
   refine zm rfl (zo rfl (o_look rfl rfl g2) ?_)
   obtain ⟨dv, s⟩ := isSt_iff.1 (s2.bringS [3])
   dsimp only [bringA, getA, delA] at s
   have s := s.bringS [4]
   dsimp only [bringA, getA, delA] at s
   refine za rfl (zv (zg rfl (zm rfl (zn rfl (zf rfl (fa88_0 _ _) (zl rfl (by exact s.ld (k := 0) rfl ag24 rfl) ?_))))))
   refine zn rfl (zf rfl (fa85_2 _ _) (zl rfl (by exact s.ld (k := 1) rfl ag77 rfl) ?_))
   refine zm rfl (WPs.call rfl rfl rfl rfl rfl rfl rfl (rec_ct (n := n) hT (s.bringS [5])) ?_)
   rintro v h ⟨rfl, s⟩
   dsimp only [bringA, getA, delA] at s
   refine zm rfl (ze rfl (ze rfl (za rfl (za rfl (zv (zg rfl (zm rfl (zv ?_))))))))
   cases hd : (lookL n ε'.1.dirty).isSome with
   | true =>
    refine zi rfl (zr rfl (zm rfl (zm rfl (zm rfl (zm rfl (WPs.call rfl rfl rfl rfl rfl rfl rfl (ranges_ct hT (u := u) (v := nw) (pg := n) (s.bringS [11, 4]) (rd_ro _ _) (rd_ro _ _) hlen hb512) ?_))))))
    rintro rv h ⟨rcs, c, hc, hcl, s⟩
    dsimp only [bringA, getA, delA] at s
    obtain ⟨i1, hi1, hi2, hi3⟩ := info_chg
    have hcl1 : cs.length = acc.length * 4 := by
     obtain ⟨a, b, q1, q2, q3⟩ := s.at (k := 12) rfl
     exact chgA_len q3
    have hcl2 : rcs.length = c.length * 4 := by
     obtain ⟨a, b, q1, q2, q3⟩ := s.at (k := 1) rfl
     exact chgA_len q3
    obtain ⟨av', h2, e2', s2⟩ := sat_appArr (s.bringS [11, 0]) Tryz.underlying38 hi1 zt54 hi2 (by omega) rfl (by decide) (by omega)
    dsimp only [bringA, getA, delA] at s2
    refine WPs.any rfl rfl rfl (OpR.of (R := fun v h' => v = av' ∧ h' = h2) (o_app rfl rfl e2') ⟨rfl, rfl⟩) ?_
    rintro v' h' ⟨rfl, rfl⟩
    refine za rfl (zv (zr rfl (zb rfl (by exact bAdd (wrapS (by omega) (by omega))) ?_)))
    refine zm rfl (zv ?_)
    have s3 : Sat _ (chgA cs acc :: chgA rcs c :: _) := s2.bringS [12, 2]
    have s4 := s3.two (C := chgA (cs ++ rcs) (acc ++ c)) (Pers.chg _ _) (Pers.chg _ _) fun a b q1 q2 => chgA_app q1 q2
    dsimp only [bringA, getA, delA] at s4
    have s5 := isSt_iff.2 ⟨dv, s4.bringS [7, 7]⟩
    dsimp only [bringA, getA, delA] at s5
    have s6 := isGp_iff.2 ⟨nv, s5.bringS [7, 7]⟩
    dsimp only [bringA, getA, delA] at s6
    have s7 := (((s6.bringS [3, 2, 0, 0, 3, 3, 3, 3]).del 10).del 9).del 8
    dsimp only [bringA, getA, delA] at s7
    refine ih (i + 1) (acc ++ c) _ _ ε' _ _ Q (by omega) hε' hw' (by simp; omega) s7 ⟨rfl, rfl, rfl, rfl, rfl, trivial⟩ (fun e c' ε'' E' h' ht he l2 l3 s' => ?_) (fun c' ε'' E' h' av'' cs'' ht hl hE' s' => ?_)
    ·exact hr e _ ε'' E' h' (.part n _ ε w b ε' c e c' ε'' hrd hb hd hc hcl ht) he l2 l3 s'
    ·refine hx (c ++ c') ε'' E' h' av'' cs'' (.part n _ ε w b ε' c 0 c' ε'' hrd hb hd hc hcl ht) (by simp at hl ⊢; omega) hE' ?_
     rw [← List.append_assoc]
     exact s'
   | false =>
    refine zj rfl (zr rfl (zm rfl (zm rfl (zm rfl (WPs.call rfl rfl rfl rfl rfl rfl rfl (clone_atom hT (s.bringS [4]) (rd_ro _ _) (by omega)) ?_)))))
    intro cw h s
    dsimp only [bringA, getA, delA] at s
    obtain ⟨wid, _, wcap, _, rfl, _⟩ := s.openBuf (by omega)
    have s := s.freezeBuf
    refine zo rfl (o_build rfl (by rw [bv54]; rfl)) ?_
    obtain ⟨rv, h1, e1', s1⟩ := sat_bs1 (P := Tryz.prog) (k := 4) (x := .agg [.int .i64 n, .int .i64 0, .bool true, .sl wid 0 b.length wcap]) s Tryz.underlying38 zt54 sz54 rfl (by decide) (by decide) rfl rfl
    dsimp only [V.cells] at s1
    refine WPs.any rfl rfl rfl (OpR.of (R := fun v h' => v = rv ∧ h' = h1) (o_bs rfl e1') ⟨rfl, rfl⟩) ?_
    rintro v' h' ⟨rfl, rfl⟩
    obtain ⟨i1, hi1, hi2, hi3⟩ := info_chg
    have hcl1 : cs.length = acc.length * 4 := by
     obtain ⟨a, b, q1, q2, q3⟩ := s1.at (k := 11) rfl
     exact chgA_len q3
    obtain ⟨av', h2, e2', s2⟩ := sat_appArr (s1.bringS [10, 0]) Tryz.underlying38 hi1 zt54 hi2 (by omega) rfl (by decide) (by simp only [List.length_cons, List.length_nil]; omega)
    dsimp only [bringA, getA, delA] at s2
    refine WPs.any rfl rfl rfl (OpR.of (R := fun v h' => v = av' ∧ h' = h2) (o_app rfl rfl e2') ⟨rfl, rfl⟩) ?_
    rintro v' h' ⟨rfl, rfl⟩
    refine za rfl (zv (zr rfl (zb rfl (by exact bAdd (wrapS (by omega) (by omega))) ?_)))
    refine zm rfl (zv ?_)
    have s3 : Sat _ (chgA cs acc :: .rob (.sl wid 0 b.length wcap) b :: _) := s2.bringS [11, 2]
    have s4 := s3.two (C := chgA (cs ++ [.int .i64 n, .int .i64 0, .bool true, .sl wid 0 b.length wcap]) (acc ++ [⟨n, 0, true, b⟩])) (Pers.chg _ _) (Pers.rob _ _) fun a b q1 q2 => chgA_app q1 ⟨⟨⟨rfl, rfl, rfl⟩, q2⟩, trivial⟩
    dsimp only [bringA, getA, delA] at s4
    have s5 := isSt_iff.2 ⟨dv, s4.bringS [6, 6]⟩
    dsimp only [bringA, getA, delA] at s5
    have s6 := isGp_iff.2 ⟨nv, s5.bringS [6, 6]⟩
    dsimp only [bringA, getA, delA] at s6
    have s7 := (((s6.bringS [3, 2, 0, 0, 2, 2, 2, 2]).del 10).del 9).del 8
    dsimp only [bringA, getA, delA] at s7
    refine ih (i + 1) (acc ++ [⟨n, 0, true, b⟩]) _ _ ε' _ _ Q (by omega) hε' hw' (by simp; omega) s7 ⟨rfl, rfl, rfl, rfl, rfl, trivial⟩ (fun e c' ε'' E' h' ht he l2 l3 s' => ?_) (fun c' ε'' E' h' av'' cs'' ht hl hE' s' => ?_)
    ·exact hr e _ ε'' E' h' (.whole n _ ε w b ε' e c' ε'' hrd hb hd ht) he l2 l3 s'
    ·refine hx (⟨n, 0, true, b⟩ :: c') ε'' E' h' av'' cs'' (.whole n _ ε w b ε' 0 c' ε'' hrd hb hd ht) (by simp at hl ⊢; omega) hE' ?_
     rw [List.append_assoc] at s'
     exact s'
theorem changes_ct (hT : W told) (s : Sat h (isGp g a now over :: isSt a p q r op data chk :: isPl r p q ε.1 :: isLg q p ε.2.1 :: isDk p ε.2.2 :: S)) (hε : EOk3 ε) (hw : pot ε ≤ 268435456) (hnow : ∀ e ∈ now, e.2.length = 512) (hm : now.length ≤ 65536) (hk : ∀ n ∈ now.map (·.1), (Lit.int .i64 n).wf = true) :
  Call ⟨Tryz.prog, told⟩ 47 [.ptr g 0] h fun v h' => ∃ e c ε', ChR now (keysS now) ε e c ε' ∧
   ((e ≠ 0 ∧ v = .tup [.sl0, .int .i64 e] ∧ Sat h' (isGp g a now over :: isSt a p q r op data chk :: isPl r p q ε'.1 :: isLg q p ε'.2.1 :: isDk p ε'.2.2 :: S)) ∨
    (e = 0 ∧ c.length ≤ 33554432 ∧ ∃ av cs, v = .tup [av, .int .i64 0] ∧ Sat h' (.arr 4 av cs :: chgA cs c :: isGp g a now over :: isSt a p q r op data chk :: isPl r p q ε'.1 :: isLg q p ε'.2.1 :: isDk p ε'.2.2 :: S))) := by
 have hl : (keysS now).length = now.length := by rw [keysS, (srtI_perm _).length_eq, List.length_map]
 refine Call.of_wp (hT.free _ rfl) Tryz.func47 rfl rfl (zg rfl (za rfl (za rfl (zv (zg rfl (za rfl (zv (zw (zg rfl (zm rfl (WPs.call rfl rfl rfl rfl rfl rfl rfl (writes_ct hT s (by omega) hk) ?_)))))))))))
 intro kv h s
 refine zo rfl (o_len rfl rfl rfl (s.arrLen (n := (keysS now).length) (j := 0) rfl (by simp [intsV]) (by decide) Tryz.underlying98)) ?_
 refine zm rfl (zv (WP.block ?_))
 have s1 := (((s.addPu trivial).nilArr (k := 4)).ent fun a b q => q).bringS [0, 0, 1, 1, 1, 1, 1, 0]
 dsimp only [bringA, getA, delA] at s1
 refine changes_loop hT (ks := keysS now) (now := now) (by omega) (fun n hn => ?_) hnow (keysS now).length 0 [] .sl0 [] ε _ _ _ (by omega) hε hw (by simp) s1 ⟨rfl, rfl, rfl, rfl, rfl, trivial⟩ (fun e c ε' E' h' hr he l2 l3 s' => ?_) (fun c ε' E' h' av cs hr hcl hE' s' => ?_)
 ·have : n ∈ now.map (·.1) := (srtI_perm _).mem_iff.1 hn
  cases hq : lookL n now with
  | some _ => rfl
  | none => exact absurd this (lookL_none.1 hq)
 ·rw [List.drop_zero] at hr
  exact ⟨trivial, _, res2 l2 l3, e, c, ε', hr, .inl ⟨he, rfl, s'⟩⟩
 ·rw [List.drop_zero] at hr
  have s := s'
  refine WP.has hE' (zg rfl (zm rfl (za rfl (za rfl (zv ?_)))))
  refine WP.ret ⟨trivial, _, rfl, ?_⟩
  exact ⟨0, c, ε', hr, .inr ⟨rfl, by simp at hcl; omega, _, _, rfl, s⟩⟩
end
end Go.Proofs.YtconhghphklfjaaGreat.Am
namespace Go.Proofs.YtconhghphklfjaaGreat.Am
open Go
theorem sealL_len {b : List Nat} {n : Nat} (hg : goodL b = true) : (sealL b n).length = 512 := by
 have h1 := lsnL_len (n := n) (good512 hg)
 rw [sealL, splice_len (by rw [le_len]; omega), h1]
def putUn (π : Pl) (n : Int) (b : List Nat) (lsn : Nat) : Int × Pl :=
 (if (putF π n b lsn).1 = 0 then (unpinF (putF π n b lsn).2 n).1 else (putF π n b lsn).1, (unpinF (putF π n b lsn).2 n).2)
def putX (π : Pl) (n : Int) (i : Nat) (f : Fm) (b : List Nat) (lsn : Nat) : Pl :=
 { π with frames := π.frames.set i { f with b := sealL b lsn, changed := true, pins := 0 }, dirty := putL n (dirtOf π n lsn, true) π.dirty }
theorem putUn_good {π : Pl} {n : Int} {i : Nat} {f : Fm} {b : List Nat} {lsn : Nat} (hl : lookL n π.wher = some (i : Int)) (hf : π.frames[i]? = some f) (hp : f.pins = 1) (hg : goodL b = true) : putUn π n b lsn = (0, putX π n i f b lsn) := by
 have h1 := (unpin_of hl hf hp).1
 have hi := (List.getElem?_eq_some_iff.1 hf).1
 have e1 : putF π n b lsn = (0, { π with frames := π.frames.set i { f with b := sealL b lsn, changed := true }, dirty := putL n (dirtOf π n lsn, true) π.dirty }) := by
  simp only [putF, h1, hf, hg, Bool.true_eq_false, if_false]
 have e2 := (unpin_of (π := { π with frames := π.frames.set i { f with b := sealL b lsn, changed := true }, dirty := putL n (dirtOf π n lsn, true) π.dirty }) (n := n) (f := { f with b := sealL b lsn, changed := true }) hl (List.getElem?_set_self hi) hp).2
 simp only [putUn, e1, e2, if_true, List.set_set]
 rfl
theorem putUn_bad {π : Pl} {n : Int} {i : Nat} {f : Fm} {b : List Nat} {lsn : Nat} (hl : lookL n π.wher = some (i : Int)) (hf : π.frames[i]? = some f) (hp : f.pins = 1) (hg : goodL b = false) : putUn π n b lsn = (4, { π with frames := π.frames.set i { f with pins := 0 } }) := by
 have h1 := (unpin_of hl hf hp).1
 have e1 : putF π n b lsn = (4, π) := by simp only [putF, h1, hf, hg, if_true]
 have e2 := (unpin_of hl hf hp).2
 simp only [putUn, e1, e2]
 rfl
theorem putF_ok {π : Pl} {n : Int} {b : List Nat} {lsn : Nat} (h : π.Ok) : (putF π n b lsn).2.Ok := by
 unfold putF
 split
 ·exact h
 ·split
  ·exact h
  ·rename_i f hf
   have hm := List.mem_of_getElem? hf
   split
   ·exact h
   ·rename_i hg
    have hg : goodL b = true := by simpa using hg
    exact h.set h.wher (by simp only [sealL_len hg]; omega) (h.pins f hm)
theorem PinR.put {ε ε' : Eng} {n : Int} {b0 b : List Nat} {lsn : Nat} (hr : PinR ε n 0 b0 ε') (h : EOk3 ε) : EOk3 ((putUn ε'.1 n b lsn).2, ε'.2) ∧ Am.pot ((putUn ε'.1 n b lsn).2, ε'.2) ≤ Am.pot ε + 1 ∧ (goodL b = true → (putUn ε'.1 n b lsn).1 = 0) := by
 have hok := hr.ok h.ok h.pins
 have hfull := (hr.full h.ok.dk h.full).1
 obtain ⟨i, f, h1, h2, h3, h4, h5⟩ := hr.at h.pins
 have hm := List.mem_of_getElem? h2
 have hpot := hr.pot
 cases hg : goodL b with
 | true =>
  rw [putUn_good h1 h2 h3 hg]
  refine ⟨⟨⟨hok.pl.set hok.pl.wher (by simp only [sealL_len hg]; omega) (by simp), hok.lg, hok.dk⟩, h5 _ rfl, hfull.set h2 rfl fun _ => sealL_len hg⟩, ?_, fun _ => rfl⟩
  have h6 := chCount_set (g := { f with b := sealL b lsn, changed := true, pins := 0 }) h2
  simp only [Bool.toNat_true] at h6
  simp only [Am.pot, putX] at hpot ⊢
  omega
 | false =>
  rw [putUn_bad h1 h2 h3 hg]
  refine ⟨⟨⟨hok.pl.set hok.pl.wher (hok.pl.len f hm) (by simp), hok.lg, hok.dk⟩, h5 _ rfl, hfull.set h2 rfl fun hl => hl⟩, ?_, fun h => by cases h⟩
  have h6 := chCount_set (g := { f with pins := 0 }) h2
  simp only [Am.pot] at hpot h6 ⊢
  omega
inductive PtR (now : List (Int × List Nat)) (lsn : Nat) : List Int → Eng → Int → Eng → Prop where
 | nil (ε : Eng) : PtR now lsn [] ε 0 ε
 | pin (n : Int) (l : List Int) (ε : Eng) (e : Int) (b : List Nat) (ε' : Eng) (hr : PinR ε n e b ε') (he : e ≠ 0) : PtR now lsn (n :: l) ε e ε'
 | bad (n : Int) (l : List Int) (ε : Eng) (b0 b : List Nat) (ε' : Eng) (hr : PinR ε n 0 b0 ε') (hb : lookL n now = some b) (he : (putUn ε'.1 n b lsn).1 ≠ 0) : PtR now lsn (n :: l) ε (putUn ε'.1 n b lsn).1 ((putUn ε'.1 n b lsn).2, ε'.2)
 | put (n : Int) (l : List Int) (ε : Eng) (b0 b : List Nat) (ε' : Eng) (e : Int) (ε'' : Eng) (hr : PinR ε n 0 b0 ε') (hb : lookL n now = some b) (he : (putUn ε'.1 n b lsn).1 = 0) (ht : PtR now lsn l ((putUn ε'.1 n b lsn).2, ε'.2) e ε'') : PtR now lsn (n :: l) ε e ε''
theorem PtR.ok3 {now : List (Int × List Nat)} {lsn : Nat} {l : List Int} {ε ε' : Eng} {e : Int} (hr : PtR now lsn l ε e ε') (h : EOk3 ε) : EOk3 ε' := by
 induction hr with
 | nil ε => exact h
 | pin n l ε e b ε' hr he => exact ⟨hr.ok h.ok h.pins, hr.errPins he h.pins, (hr.full h.ok.dk h.full).1⟩
 | bad n l ε b0 b ε' hr hb he => exact (hr.put h).1
 | put n l ε b0 b ε' e ε'' hr hb he ht ih => exact ih (hr.put h).1
theorem PtR.pot {now : List (Int × List Nat)} {lsn : Nat} {l : List Int} {ε ε' : Eng} {e : Int} (hr : PtR now lsn l ε e ε') (h : EOk3 ε) : Am.pot ε' ≤ Am.pot ε + l.length := by
 induction hr with
 | nil ε => exact Nat.le_refl _
 | pin n l ε e b ε' hr he => have := hr.pot; omega
 | bad n l ε b0 b ε' hr hb he => have := (hr.put (b := b) (lsn := lsn) h).2.1; simp only [List.length_cons]; omega
 | put n l ε b0 b ε' e ε'' hr hb he ht ih => have h1 := ih (hr.put h).1; have := (hr.put (b := b) (lsn := lsn) h).2.1; simp only [List.length_cons]; omega
theorem lookM {h : H} {id c : Nat} {es : Ents} {n : Int} {u : V} {t kt et : TypeId} {k : IntKind} {z : V} (hg : T.get h.tr id = some (.map (es.map mkE) c)) (he : lookE n es = some u) (hu : Tryz.prog.underlying t = some (.map kt et)) (hk : Tryz.prog.underlying kt = some (.int k)) (hz : zeroT Tryz.prog et = some z) :
  lookupX Tryz.prog h t (.map id) (.int .i64 n) false = some u := by
 have hi := idxE_look (n := n) es 0
 simp only [lookupX, lookupV, hu, hk, hz, hg, keyBeq, ikBeq_self, cond_true, findK_E]
 cases hq : idxE n es 0 with
 | none => rw [hq] at hi; rw [he] at hi; cases hi
 | some q => rw [hq] at hi; rw [he] at hi; obtain ⟨j, w⟩ := q; have := Option.some.inj hi; simp only at this; subst this; rfl
section
variable {told : Nat → Option (List V → H → Option (V × H))} {h : H} {S : List Assn} {X Y : Assn} {r k q p fid a g chk : Nat} {op v x u wh di : V} {l b was data : List Nat} {now : List (Int × List Nat)} {over : Bool} {ε : Eng}
noncomputable def dnL : Code := pathC [1, 1, 1, 1, 1, 1, 1, 1, 0, 1, 0, 0] ((Tryz.f17.body).getD .skip)
theorem done_loop (hT : W told) {ks : List Int} {kv dv : V} {lsn nid c : Nat} {es : Ents} (hks : ks.length ≤ 65536) (hin : ∀ n ∈ ks, (lookL n now).isSome = true) (hnow : ∀ e ∈ now, e.2.length = 512) : ∀ (j i : Nat) (ε : Eng) (h : H) (E : List (Nat × V)) (Q : Ex → List (Nat × V) → H → Prop), i + j = ks.length →
  EOk3 ε → pot ε + j ≤ 268435456 →
  Sat h (pt g (.cells 3 [.ptr a 0, .map nid, .bool over] false) :: mapI nid es c :: entsR (fun v b => .rob v b) es now :: pt a (.cells 6 (stC a p q r op dv chk) false) :: isPl r p q ε.1 :: isLg q p ε.2.1 :: isDk p ε.2.2 :: .arr 1 kv (intsV ks) :: S) →
  Has E [(0, .ptr g 0), (6, .ptr a 0), (8, .int .u64 (lsn : Int)), (73, kv), (74, .int .i64 ks.length), (75, .int .i64 i)] →
  (∀ e ε' E' h', PtR now lsn (ks.drop i) ε e ε' → e ≠ 0 → look E' 4 = some (.int .u64 0) → look E' 5 = some (.int .i64 e) → Sat h' (pt g (.cells 3 [.ptr a 0, .map nid, .bool over] false) :: mapI nid es c :: entsR (fun v b => .rob v b) es now :: pt a (.cells 6 (stC a p q r op dv chk) false) :: isPl r p q ε'.1 :: isLg q p ε'.2.1 :: isDk p ε'.2.2 :: S) → Q .ret E' h') →
  (∀ ε' E' h', PtR now lsn (ks.drop i) ε 0 ε' → Has E' [(8, .int .u64 (lsn : Int))] → Sat h' (pt g (.cells 3 [.ptr a 0, .map nid, .bool over] false) :: mapI nid es c :: entsR (fun v b => .rob v b) es now :: pt a (.cells 6 (stC a p q r op dv chk) false) :: isPl r p q ε'.1 :: isLg q p ε'.2.1 :: isDk p ε'.2.2 :: S) → Q (.exit 1) E' h') →
  WP ⟨Tryz.prog, told⟩ 118 (.loop dnL) E h Q := by
 intro j
 induction j with
 | zero =>
  intro i ε h E Q hj hε hw s hE hr hx
  refine WP.loop (WP.has hE (zg rfl (WPs.opF rfl rfl rfl (o_bin rfl rfl bLss) (by simp <;> omega) ?_)))
  refine zv (zw (zj rfl (WP.exit ?_)))
  rw [List.drop_eq_nil_of_le (by omega)] at hx
  exact hx ε _ _ (.nil ε) ⟨rfl, trivial⟩ (s.del 7)
 | succ j ih =>
  intro i ε h E Q hj hε hw s hE hr hx
  have hn : ks[i]? = some (ks[i]'(by omega)) := List.getElem?_eq_getElem _
  have hmem : ks[i]'(by omega) ∈ ks := List.getElem_mem _
  have hdrop : ks.drop i = ks[i]'(by omega) :: ks.drop (i + 1) := List.drop_eq_getElem_cons (by omega)
  generalize (ks[i]'(by omega)) = n at hn hmem hdrop
  have hc : (intsV ks)[i]? = some (.int .i64 n) := by simp [intsV, hn]
  obtain ⟨b, hb⟩ := Option.isSome_iff_exists.1 (hin n hmem)
  have hb512 := hnow _ (lookL_mem hb)
  simp only at hb512
  rw [hdrop] at hr hx
  obtain ⟨id, off, e1, e2⟩ := arr1_at (P := Tryz.prog) s (k := 7) rfl hc Tryz.underlying98 sz3
  refine WP.loop (WP.has hE (zg rfl (WPs.opT rfl rfl rfl (o_bin rfl rfl bLss) (by simp <;> omega) ?_)))
  refine zv (zw (zi rfl (WP.skip (zw (WP.block (zg rfl (zo rfl (o_ia (r := .ptr id off) rfl rfl e1) (zl rfl (e2 _ ag3) (za rfl (zv (zw (zg rfl (zm rfl (zn rfl (zf rfl (fa85_2 _ _) (zl rfl (by exact s.ld (k := 3) rfl ag77 rfl) ?_))))))))))))))))
  refine zm rfl (WPs.call rfl rfl rfl rfl rfl rfl rfl (pin_ct (n := n) hT (s.bringS [4, 4, 4]) hε.ok.pl hε.pins hε.ok.lg hε.ok.dk (by have := pot_wait (ε := ε); omega)) ?_)
  rintro v h ⟨e, b0, ε', hpr, (⟨he, rfl, s⟩ | ⟨rfl, u0, rfl, s⟩)⟩
  ·dsimp only [bringA, getA, delA] at s
   refine zm rfl (ze rfl (ze rfl (za rfl (za rfl (zv (zg rfl (zm rfl (WPs.opT rfl rfl rfl (o_bin rfl rfl bNeq) (by simp; exact he) ?_))))))))
   refine zv (zi rfl (zg rfl (zm rfl (za rfl (za rfl (zv (WP.ret (hr e ε' _ _ (.pin n _ ε e b0 ε' hpr he) he rfl rfl ?_))))))))
   exact (s.bringS [3, 3, 3, 3, 0, 0, 0]).del 7
  ·dsimp only [bringA, getA, delA] at s
   have s := s.drop
   have hput := hpr.put (b := b) (lsn := lsn) hε
   have hok := hpr.ok hε.ok hε.pins
   refine zm rfl (ze rfl (ze rfl (za rfl (za rfl (zv (zg rfl (zm rfl (WPs.opF rfl rfl rfl (o_bin rfl rfl bNeq) (rfl) (zv (zj rfl (WP.skip (zw ?_))))))))))))
   have s1 : Sat h (entsR (fun v b => .rob v b) es now :: _) := s.bringS [5]
   obtain ⟨_, _, _, _, q3⟩ := s1.at (k := 0) rfl
   rcases entsR_look (n := n) q3 with ⟨_, q4⟩ | ⟨u, b', g1, g2, _⟩
   ·rw [hb] at q4; cases q4
   rw [hb] at g2
   have := Option.some.inj g2
   subst this
   have s2 := (s1.dup (Pers.ents (fun _ _ => Pers.rob _ _) _ _)).ent (B := .rob u b) fun a' b' h' => by
    rcases entsR_look (n := n) h' with ⟨_, q4⟩ | ⟨u', b'', g1', g2', g3'⟩
    ·rw [hb] at q4; cases q4
    ·rw [g1] at g1'; rw [hb] at g2'
     have h5 := Option.some.inj g1'
     have h6 := Option.some.inj g2'
     subst h5; subst h6
     exact g3'
   dsimp only [bringA, getA, delA] at s2
   obtain ⟨uid, uoff, ucap, rfl⟩ := view_sl (s2.viewX (k := 0) rfl (rd_ro _ _)) (by omega)
   have s := s2.bringS [2, 0]
   dsimp only [bringA, getA, delA] at s
   have s0 := s
   refine WP.drawn [none, none, none, none, none, none, none, none, none, none, none, none, none, none] rfl (by kernel_rfl) (by kernel_rfl) ?_
   refine zM rfl (zN rfl (zF rfl (fa85_2 _ _) (zL rfl (by exact s.ld (k := 7) rfl ag77 rfl) ?_)))
   refine zM rfl (zM rfl (zN rfl (zF rfl (fa88_1 _ _) (zL rfl (by exact s.ld (k := 5) rfl ag86 rfl) ?_))))
   refine zM rfl (zO rfl (o_look rfl rfl (by exact lookM (s.row (k := 6) rfl) g1 Tryz.underlying86 Tryz.underlying3 zt32)) ?_)
   refine zM rfl (WPt.any rfl rfl rfl rfl (OpR.call rfl rfl rfl rfl (put2_ct (n := n) (lsn := lsn) (b := b) hT s (rd_ro _ _) hok.pl (by omega))) ?_)
   rintro v h ⟨rfl, s⟩
   refine zA rfl ?_
   refine WPt.nil ⟨⟨trivial, trivial, trivial, trivial, trivial, trivial, trivial, trivial, trivial, trivial, trivial, trivial, trivial, trivial, trivial⟩, ?_⟩
   refine zw (zg rfl (zm rfl (zn rfl (zf rfl (fa85_2 _ _) (zl rfl (by exact s.ld (k := 7) rfl ag77 rfl) ?_)))))
   refine zm rfl (WPs.call rfl rfl rfl rfl rfl rfl rfl (unpin_ct (n := n) hT s (putF_ok hok.pl)) ?_)
   rintro v h ⟨rfl, s⟩
   refine za rfl (zv (zg rfl (zm rfl ?_)))
   by_cases hg : (putF ε'.1 n b lsn).1 = 0
   ·have hpu : (putUn ε'.1 n b lsn).1 = (unpinF (putF ε'.1 n b lsn).2 n).1 := by simp only [putUn, hg, if_true]
    have hp2 : (putUn ε'.1 n b lsn).2 = (unpinF (putF ε'.1 n b lsn).2 n).2 := rfl
    rw [← hpu, ← hp2] at *
    refine WPs.opT rfl rfl rfl (o_bin rfl rfl bEql) (by simp; exact hg) ?_
    refine zv (zi rfl (zr rfl (zm rfl (za rfl (zv (zg rfl (zm rfl ?_)))))))
    by_cases he : (putUn ε'.1 n b lsn).1 = 0
    ·skip
     refine WPs.opF rfl rfl rfl (o_bin rfl rfl bNeq) (by simp; exact he) ?_
     refine zv (zj rfl (WP.skip (zr rfl (zb rfl (by exact bAdd (wrapS (by omega) (by omega))) ?_))))
     refine zm rfl (zv ?_)
     have s9 := (s.bringS [5, 5, 2, 4, 0, 1, 1, 1]).del 8
     dsimp only [bringA, getA, delA] at s9
     refine ih (i + 1) ((putUn ε'.1 n b lsn).2, ε'.2) _ _ Q (by omega) hput.1 (by have h9 : pot ((putUn ε'.1 n b lsn).2, ε'.2) ≤ pot ε + 1 := hput.2.1; omega) s9 ⟨rfl, rfl, rfl, rfl, rfl, rfl, trivial⟩ (fun e ε'' E' h' ht he' l4 l5 s' => ?_) (fun ε'' E' h' ht hE' s' => ?_)
     ·exact hr e ε'' E' h' (.put n _ ε b0 b ε' e ε'' hpr hb he ht) he' l4 l5 s'
     ·exact hx ε'' E' h' (.put n _ ε b0 b ε' 0 ε'' hpr hb he ht) hE' s'
    ·skip
     refine WPs.opT rfl rfl rfl (o_bin rfl rfl bNeq) (by simp; exact he) ?_
     refine zv (zi rfl (zg rfl (zm rfl (za rfl (za rfl (zv (WP.ret (hr _ _ _ _ (.bad n _ ε b0 b ε' hpr hb he) he rfl rfl ?_))))))))
     exact ((s.bringS [5, 5, 2, 4, 0, 1, 1, 1]).del 8).del 7
   ·have hpu : (putUn ε'.1 n b lsn).1 = (putF ε'.1 n b lsn).1 := by simp only [putUn, hg, if_false]
    have hp2 : (putUn ε'.1 n b lsn).2 = (unpinF (putF ε'.1 n b lsn).2 n).2 := rfl
    rw [← hpu] at hg
    refine WPs.opF rfl rfl rfl (o_bin rfl rfl bEql) (by simp; rw [← hpu]; exact hg) ?_
    refine zv (zj rfl (WP.skip (zg rfl (zm rfl (WPs.opT rfl rfl rfl (o_bin rfl rfl bNeq) (by simp; rw [← hpu]; exact hg) ?_)))))
    refine zv (zi rfl (zg rfl (zm rfl (za rfl (za rfl (zv (WP.ret (hr _ _ _ _ (.bad n _ ε b0 b ε' hpr hb hg) hg rfl (by rw [hpu]; rfl) ?_))))))))
    exact ((s.bringS [5, 5, 2, 4, 0, 1, 1, 1]).del 8).del 7
end
end Go.Proofs.YtconhghphklfjaaGreat.Am
