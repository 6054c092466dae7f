/- Whatever groups are done and dropped, written out and checkpointed between, each page is as the groups that were done made it; the conditions are those of the given statement, for arguments that a machine can hold. Part 38 of 49. -/
import Derived.Test.YtconhghphklfjaaGreatP37
namespace Go.Proofs.YtconhghphklfjaaGreat.Am
open Go
inductive GWr (ε : Eng) (now : List (Int × List Nat)) (over : Bool) (n : Int) (b : List Nat) : Int → List (Int × List Nat) → Eng → Prop where
 | may (e : Int) (c : List Nat) (ε' : Eng) (hr : GRd ε now over n e c ε') (he : e ≠ 0) : GWr ε now over n b e now ε'
 | bad (c : List Nat) (ε' : Eng) (hr : GRd ε now over n 0 c ε') (hg : goodL b = false) : GWr ε now over n b 4 now ε'
 | done (c : List Nat) (ε' : Eng) (hr : GRd ε now over n 0 c ε') (hg : goodL b = true) : GWr ε now over n b 0 (putL n b now) ε'
theorem GWr.ok3 {ε ε' : Eng} {now now' : List (Int × List Nat)} {over : Bool} {n e : Int} {b : List Nat} (hr : GWr ε now over n b e now' ε') (h : EOk3 ε) : EOk3 ε' := by
 cases hr with
 | may e c ε' hr he => exact hr.ok3 h
 | bad c ε' hr hg => exact hr.ok3 h
 | done c ε' hr hg => exact hr.ok3 h
section
variable {told : Nat → Option (List V → H → Option (V × H))} {h : H} {S : List Assn} {X : Assn} {r k q p fid a g chk : Nat} {op v x wh di : V} {l b data : List Nat} {π : Pl} {m : List Fm} {μ : Lg} {δ : Dk} {now : List (Int × List Nat)} {over : Bool}
theorem may_ct (hT : W told) {n : Int} (s : Sat h (isGp g a now over :: isSt a p q r op data chk :: isPl r p q π :: isLg q p μ :: isDk p δ :: S)) (hε : EOk3 (π, μ, δ)) (hw : δ.waiting.length ≤ 268435456) (hnow : ∀ e ∈ now, e.2.length = 512) :
  Call ⟨Tryz.prog, told⟩ 42 [.iface 27 (.ptr g 0), .int .i64 n] h fun v h' => ∃ (e : Int) (b : List Nat) (ε : Eng), GRd (π, μ, δ) now over n e b ε ∧ v = .int .i64 e ∧
   Sat h' (isGp g a now over :: isSt a p q r op data chk :: isPl r p q ε.1 :: isLg q p ε.2.1 :: isDk p ε.2.2 :: S) := by
 refine Call.of_wp (hT.free _ rfl) Tryz.func42 rfl rfl (zg rfl (za rfl (zv (zg rfl (zm rfl (zm rfl (WPs.any rfl rfl rfl (OpR.invoke rfl rfl rfl meth_gr rfl (gread_ct (n := n) hT s hε hw hnow)) ?_)))))))
 rintro v h ⟨e, b, ε, hr, (⟨he, rfl, s⟩ | ⟨rfl, u, rfl, s⟩)⟩
 ·refine WPs.op rfl rfl rfl (o_move rfl) ?_
  refine ze rfl (ze rfl (za rfl (za rfl (zv (zg rfl (zm rfl (za rfl (zv ?_))))))))
  refine WP.ret ⟨trivial, _, rfl, ?_⟩
  exact ⟨e, b, ε, hr, rfl, s⟩
 ·skip
  refine zm rfl (ze rfl (ze rfl (za rfl (za rfl (zv (zg rfl (zm rfl (za rfl (zv ?_)))))))))
  refine WP.ret ⟨trivial, _, rfl, ?_⟩
  exact ⟨0, b, ε, hr, rfl, s.drop⟩
theorem gwrite_ct (hT : W told) {n : Int} (s : Sat h (isGp g a now over :: isSt a p q r op data chk :: isPl r p q π :: isLg q p μ :: isDk p δ :: X :: S)) (hX : Ent X (rdB x b)) (hb : b.length < 9223372036854775808) (hε : EOk3 (π, μ, δ)) (hw : δ.waiting.length ≤ 268435456) (hnow : ∀ e ∈ now, e.2.length = 512) :
  Call ⟨Tryz.prog, told⟩ 14 [.ptr g 0, .int .i64 n, x] h fun v h' => ∃ (e : Int) (now' : List (Int × List Nat)) (ε : Eng), GWr (π, μ, δ) now over n b e now' ε ∧ v = .int .i64 e ∧
   Sat h' (isGp g a now' over :: isSt a p q r op data chk :: isPl r p q ε.1 :: isLg q p ε.2.1 :: isDk p ε.2.2 :: X :: S) := by
 refine Call.of_wp (hT.free _ rfl) Tryz.func14 rfl rfl (zg rfl (za rfl (zv (zw (zg rfl (zm rfl (zo rfl (o_mki rfl (mki_of Tryz.underlying27 rfl)) (zm rfl (WPs.call rfl rfl rfl rfl rfl rfl rfl (may_ct (n := n) hT s hε hw hnow) ?_)))))))))
 rintro v h ⟨e, c, ε, hr, rfl, s⟩
 refine za rfl (zv (zg rfl (zm rfl ?_)))
 by_cases he : e = 0
 ·skip
  subst he
  refine WPs.opF rfl rfl rfl (o_bin rfl rfl bNeq) (rfl) (zv (zj rfl (WP.skip (zw (zg rfl (zm rfl (WPs.call rfl rfl rfl rfl rfl rfl rfl (good_ct hT (s.bringS [5]) hX hb) ?_)))))))
  rintro v h ⟨rfl, s⟩
  dsimp only [bringA, getA, delA] at s
  refine zo rfl (o_un rfl rfl) (zv ?_)
  by_cases hg : goodL b = true
  ·skip
   refine WP.condF rfl (by rw [hg]; rfl) ?_
   have h512 := good512 hg
   obtain ⟨nv, s⟩ := isGp_iff.1 (s.bringS [1])
   dsimp only [bringA, getA, delA] at s
   have s := s.bringS [2, 0, 0]
   dsimp only [bringA, getA, delA] at s
   obtain ⟨nid, rfl⟩ := mapV_v s (j := 2) rfl
   refine WP.skip (zw ?_)
   have s0 := s
   refine WP.drawn [some (0, 2), some (0, 2), some (0, 2), some (0, 2), some (0, 2), none, none, none] rfl (by kernel_rfl) (by kernel_rfl) ?_
   refine zM rfl (zN rfl (zF rfl (fa88_1 _ _) (zL rfl (by exact s.ld (k := 1) rfl ag86 rfl) ?_)))
   refine zM rfl (zM rfl (WPt.any rfl rfl rfl rfl (OpR.call rfl rfl rfl rfl (clone_atom hT s hX (by omega))) ?_))
   intro u h s
   obtain ⟨bid, _, cap, _, rfl, _⟩ := s.openBuf (by omega)
   have s := s.freezeBuf
   have s1 := s
   refine WPt.any0 rfl rfl rfl (OpR.mapUpdate rfl rfl rfl rfl (mapV_put (f := fun v b => Assn.rob v b) (x := b) (fun _ _ => Pers.rob _ _) (s.bringS [0, 2]) Tryz.underlying86 Tryz.underlying3)) ?_
   intro w h s
   dsimp only [delA, bringA] at s
   refine WPt.nil ⟨⟨fun _ _ => .inr ⟨rfl, ⟨_, o_move rfl⟩, beqV _ rfl⟩, fun _ _ => .inr ⟨rfl, ⟨_, o_nil rfl⟩, beqV _ rfl⟩, fun _ _ => .inr ⟨rfl, ⟨_, o_fa rfl (fa88_1 _ _)⟩, beqV _ rfl⟩, heaps2 (.inr ⟨rfl, ⟨_, o_load rfl (by exact s0.ld (k := 1) rfl ag86 rfl)⟩, beqV _ rfl⟩) (.inr ⟨rfl, ⟨_, o_load rfl (by exact s1.ld (k := 2) rfl ag86 rfl)⟩, beqV _ rfl⟩), fun _ _ => .inr ⟨rfl, ⟨_, o_move rfl⟩, beqV _ rfl⟩, trivial, trivial, trivial, trivial⟩, ?_⟩
   refine zg rfl (za rfl (zv ?_))
   refine WP.ret ⟨trivial, _, rfl, ?_⟩
   exact ⟨0, _, ε, .done c ε hr hg, rfl, isGp_iff.2 ⟨.map nid, s.bringS [2, 0, 1, 1, 1, 1, 0]⟩⟩
  ·have hg : goodL b = false := by simpa using hg
   refine WP.condT rfl (by rw [hg]; rfl) ?_
   refine zg rfl (za rfl (zv ?_))
   refine WP.ret ⟨trivial, _, rfl, ?_⟩
   exact ⟨4, _, ε, .bad c ε hr hg, rfl, s.bringS [1, 1, 1, 1, 1, 0]⟩
 ·skip
  refine WPs.opT rfl rfl rfl (o_bin rfl rfl bNeq) (by simp; exact he) ?_
  refine zv (zi rfl (zg rfl (zm rfl (za rfl (zv ?_)))))
  refine WP.ret ⟨trivial, _, rfl, ?_⟩
  exact ⟨e, _, ε, .may e c ε hr he, rfl, s⟩
theorem gclose_ct (hT : W told) (s : Sat h (isGp g a now over :: isSt a p q r (.ptr g 0) data chk :: S)) : Call ⟨Tryz.prog, told⟩ 49 [.ptr g 0] h fun v h' => v = .tup [] ∧ Sat h' (isGp g a now true :: isSt a p q r .ptr0 data chk :: S) := by
 obtain ⟨nv, s⟩ := isGp_iff.1 s
 obtain ⟨dv, s⟩ := isSt_iff.1 (s.bringS [2])
 dsimp only [bringA, getA, delA] at s
 refine Call.of_wp (hT.free _ rfl) Tryz.func49 rfl rfl (zg rfl (zm rfl (zn rfl (zf rfl (fa88_2 _ _) ?_))))
 refine WPs.stS rfl rfl rfl rfl rfl (by exact s.st1 (k := 2) rfl sz4 rfl (by decide) rfl rfl) (fun h s => ?_)
 dsimp only [stC, Nat.reduceAdd, List.set, setA] at s
 refine zv (zg rfl (zm rfl (zn rfl (zf rfl (fa88_0 _ _) (zl rfl (by exact s.ld (k := 2) rfl ag24 rfl) ?_)))))
 refine zn rfl (zf rfl (fa85_3 _ _) (zl rfl (by exact s.ld (k := 0) rfl ag27 rfl) ?_))
 refine zm rfl (WPs.opT rfl rfl rfl (o_bin rfl rfl (eqlPP Tryz.underlying27 sz88 (by decide) (s.row (k := 2) rfl) (s.row (k := 2) rfl) (by decide) (by decide))) (Nat.beq_refl g) ?_)
 refine zv (zi rfl (zr rfl (zm rfl (zn rfl (zf rfl (fa88_0 _ _) (zl rfl (by exact s.ld (k := 2) rfl ag24 rfl) ?_))))))
 refine zn rfl (zf rfl (fa85_3 _ _) ?_)
 refine WPs.stS rfl rfl rfl rfl rfl (by exact s.st1 (k := 0) rfl sz27 rfl (by decide) rfl rfl) (fun h s => ?_)
 dsimp only [Nat.reduceAdd, List.set, setA] at s
 refine zv ?_
 have s := isGp_iff.2 ⟨nv, (isSt_iff.2 ⟨dv, s⟩).bringS [1, 1]⟩
 exact ⟨trivial, _, rfl, rfl, s⟩
theorem gdrop_ct (hT : W told) (s : Sat h (isGp g a now over :: isSt a p q r (.ptr g 0) data chk :: S)) : Call ⟨Tryz.prog, told⟩ 27 [.ptr g 0] h fun v h' => v = .tup [] ∧ Sat h' (isGp g a now true :: isSt a p q r .ptr0 data chk :: S) := by
 refine Call.of_wp (hT.free _ rfl) Tryz.func27 rfl rfl (zr rfl (zm rfl (WPs.call rfl rfl rfl rfl rfl rfl rfl (gclose_ct hT s) ?_)))
 rintro v h ⟨rfl, s⟩
 refine zv ?_
 exact ⟨trivial, _, rfl, rfl, s⟩
end
end Go.Proofs.YtconhghphklfjaaGreat.Am
namespace Go.Proofs.YtconhghphklfjaaGreat.Am
open Go
inductive RgR (page : Int) (was now : List Nat) : Nat → List Chg → Prop where
 | done (i : Nat) (h : now.length ≤ i) : RgR page was now i []
 | skip (i : Nat) (l : List Chg) (h : i < now.length) (he : was[i]? = now[i]?) (hr : RgR page was now (i + 1) l) : RgR page was now i l
 | take (i e : Nat) (l : List Chg) (h1 : i < e) (h2 : e ≤ now.length) (hr : RgR page was now e l) : RgR page was now i (⟨page, i, false, (now.take e).drop i⟩ :: l)
def RgF (page : Int) (was now : List Nat) (c : List Chg) : Prop := ∃ l, RgR page was now 12 l ∧ c = if l = [] then [⟨page, 0, false, []⟩] else l
theorem info_chg : ∃ i, Tryz.prog.info? 54 = some i ∧ i.size = 4 ∧ i.bytes = 48 :=
 ⟨_, (show Tryz.prog.info? 54 = some ((Tryz.prog.info? 54).getD default) by kernel_rfl), by kernel_rfl, by kernel_rfl⟩
section
variable {told : Nat → Option (List V → H → Option (V × H))} {h : H} {S : List Assn} {X Y : Assn} {r k q p fid a g chk : Nat} {op v x u wh di : V} {l b was now : List Nat}
noncomputable def rgO : Code := pathC [1, 1, 0, 1, 0, 0] ((Tryz.f87.body).getD .skip)
noncomputable def rgI : Code := pathC [1, 1, 0, 1, 0, 0, 1, 0, 1, 1, 0, 1, 0, 0] ((Tryz.f87.body).getD .skip)
theorem rg_inner {pg : Int} {at0 : Nat} {t7 : V} {k1 k2 : Nat} (s : Sat h S) (hk1 : getA S k1 = some X) (hX : Ent X (rdB u was)) (hk2 : getA S k2 = some Y) (hY : Ent Y (rdB v now)) (hl1 : was.length = 512) (hl2 : now.length = 512) : ∀ (j i e : Nat) (E : List (Nat × V)) (Q : Ex → List (Nat × V) → H → Prop), i + j = 512 → at0 < e → e ≤ i →
  Has E [(0, .int .i64 pg), (1, u), (2, v), (7, t7), (8, .int .i64 (at0 : Int)), (9, .int .i64 (e : Int)), (10, .int .i64 (i : Int))] →
  (∀ e' E', at0 < e' → e' ≤ 512 → Has E' [(0, .int .i64 pg), (1, u), (2, v), (7, t7), (8, .int .i64 (at0 : Int)), (9, .int .i64 (e' : Int))] → Q (.exit 2) E' h) →
  WP ⟨Tryz.prog, told⟩ 71 (.loop rgI) E h Q := by
 have hv := s.viewX hk2 hY
 have hu := s.viewX hk1 hX
 have hlen : lenV Tryz.prog h 32 v = some (.int .i64 now.length) := len_view Tryz.underlying32 hv
 intro j
 induction j with
 | zero =>
  intro i e E Q hi h1 h2 hE hq
  refine WP.loop (WP.has hE (zw (zg rfl (zm rfl (zm rfl (zo rfl (o_len rfl rfl rfl hlen) (WPs.opF rfl rfl rfl (o_bin rfl rfl bLss) (by simp <;> omega) ?_)))))))
  refine zm rfl (zx rfl (zx rfl (zx rfl (zx rfl (zp rfl (zv (zj rfl (WP.exit ?_))))))))
  exact hq e _ h1 (by omega) ⟨rfl, rfl, rfl, rfl, rfl, rfl, trivial⟩
 | succ j ih =>
  intro i e E Q hi h1 h2 hE hq
  have hb : now[i]? = some (now[i]'(by omega)) := List.getElem?_eq_getElem _
  generalize (now[i]'(by omega)) = b at hb
  have hc : was[i]? = some (was[i]'(by omega)) := List.getElem?_eq_getElem _
  generalize (was[i]'(by omega)) = c at hc
  obtain ⟨id, off, e1, e2⟩ := index_view hv hb
  obtain ⟨id', off', e3, e4⟩ := index_view hu hc
  refine WP.loop (WP.has hE (zw (zg rfl (zm rfl (zm rfl (zo rfl (o_len rfl rfl rfl hlen) (WPs.opT rfl rfl rfl (o_bin rfl rfl bLss) (by simp <;> omega) ?_)))))))
  refine zm rfl (zm rfl (zm rfl (zb rfl (by exact bAdd (wrapS (by omega) (by omega))) ?_)))
  by_cases hd : i < e + 8
  ·skip
   refine WPs.opT rfl rfl rfl (o_bin rfl rfl bLss) (by simp <;> omega) ?_
   refine zq rfl (zv (zi rfl (WP.skip (zw (WP.block (zw ?_))))))
   have s0 := s
   refine WP.drawn [none, none, none, none, none, none, none, none, none] rfl (by kernel_rfl) (by kernel_rfl) ?_
   refine zM rfl (zM rfl (zO rfl (o_ia (r := .ptr id' off') rfl rfl e3) (zL rfl e4 (zM rfl (zM rfl (zO rfl (o_ia (r := .ptr id off) rfl rfl e1) (zL rfl e2 ?_)))))))
   by_cases hbc : c = b
   ·skip
    refine WPt.opF rfl rfl rfl rfl (o_bin rfl rfl bNeq) (by simp; exact_mod_cast hbc) ?_
    refine WPt.nil ⟨⟨trivial, trivial, trivial, trivial, trivial, trivial, trivial, trivial, trivial, trivial⟩, ?_⟩
    refine zj rfl (WP.skip (zr rfl (zm rfl (zb rfl (by exact bAdd (wrapS (by omega) (by omega))) ?_))))
    refine za rfl (zv ?_)
    exact ih (i + 1) e _ Q (by omega) h1 (by omega) ⟨rfl, rfl, rfl, rfl, rfl, rfl, rfl, trivial⟩ hq
   ·skip
    refine WPt.opT rfl rfl rfl rfl (o_bin rfl rfl bNeq) (by simp; omega) ?_
    refine WPt.nil ⟨⟨trivial, trivial, trivial, trivial, trivial, trivial, trivial, trivial, trivial, trivial⟩, ?_⟩
    refine zi rfl (zr rfl (zm rfl (zb rfl (by exact bAdd (wrapS (by omega) (by omega))) ?_)))
    refine za rfl (zv (zr rfl (zm rfl (zb rfl (by exact bAdd (wrapS (by omega) (by omega))) ?_))))
    refine za rfl (zv ?_)
    exact ih (i + 1) (i + 1) _ Q (by omega) (by omega) (by omega) ⟨rfl, rfl, rfl, rfl, rfl, rfl, rfl, trivial⟩ hq
  ·skip
   refine WPs.opF rfl rfl rfl (o_bin rfl rfl bLss) (by simp <;> omega) ?_
   refine zq rfl (zv (zj rfl (WP.exit ?_)))
   exact hq e _ h1 (by omega) ⟨rfl, rfl, rfl, rfl, rfl, rfl, trivial⟩
theorem rg_outer (hT : W told) {pg : Int} (hX : Ent X (rdB u was)) (hY : Ent Y (rdB v now)) (hl1 : was.length = 512) (hl2 : now.length = 512) : ∀ (j i : Nat) (acc : List Chg) (av : V) (cs : List V) (h : H) (E : List (Nat × V)) (Q : Ex → List (Nat × V) → H → Prop), 512 ≤ i + j → i ≤ 512 → acc.length ≤ i →
  Sat h (.arr 4 av cs :: chgA cs acc :: X :: Y :: S) → (∀ l, RgR pg was now i l → RgR pg was now 12 (acc ++ l)) →
  Has E [(0, .int .i64 pg), (1, u), (2, v), (7, av), (8, .int .i64 (i : Int))] →
  (∀ av' cs' l E' h', RgR pg was now 12 l → l.length ≤ 512 → Sat h' (.arr 4 av' cs' :: chgA cs' l :: X :: Y :: S) → Has E' [(0, .int .i64 pg), (7, av')] → Q (.exit 0) E' h') →
  WP ⟨Tryz.prog, told⟩ 71 (.loop rgO) E h Q := by
 intro j
 induction j with
 | zero =>
  intro i acc av cs h E Q hj hi hac s hacc hE hq
  have hlen : lenV Tryz.prog h 32 v = some (.int .i64 now.length) := len_view Tryz.underlying32 (s.viewX (k := 3) rfl hY)
  refine WP.loop (WP.has hE (zw (zg rfl (zm rfl (zm rfl (zo rfl (o_len rfl rfl rfl hlen) (WPs.opF rfl rfl rfl (o_bin rfl rfl bLss) (by simp <;> omega) ?_)))))))
  refine zv (zj rfl (WP.exit ?_))
  have := hacc [] (.done _ (by omega))
  rw [List.append_nil] at this
  exact hq av cs acc _ _ this (by omega) s ⟨rfl, rfl, trivial⟩
 | succ j ih =>
  intro i acc av cs h E Q hj hi hac s hacc hE hq
  have hv := s.viewX (k := 3) rfl hY
  have hu := s.viewX (k := 2) rfl hX
  have hlen : lenV Tryz.prog h 32 v = some (.int .i64 now.length) := len_view Tryz.underlying32 hv
  by_cases hlt : i < 512
  ·have hb : now[i]? = some (now[i]'(by omega)) := List.getElem?_eq_getElem _
   generalize (now[i]'(by omega)) = b at hb
   have hc : was[i]? = some (was[i]'(by omega)) := List.getElem?_eq_getElem _
   generalize (was[i]'(by omega)) = c at hc
   obtain ⟨id, off, e1, e2⟩ := index_view hv hb
   obtain ⟨id', off', e3, e4⟩ := index_view hu hc
   refine WP.loop (WP.has hE (zw (zg rfl (zm rfl (zm rfl (zo rfl (o_len rfl rfl rfl hlen) (WPs.opT rfl rfl rfl (o_bin rfl rfl bLss) (by simp <;> omega) ?_)))))))
   refine zv (zi rfl (WP.skip (WP.block (zw (zw ?_)))))
   have s0 := s
   refine WP.drawn [none, none, none, none, none, none, none, none, none] rfl (by kernel_rfl) (by kernel_rfl) ?_
   refine zM rfl (zM rfl (zO rfl (o_ia (r := .ptr id' off') rfl rfl e3) (zL rfl e4 (zM rfl (zM rfl (zO rfl (o_ia (r := .ptr id off) rfl rfl e1) (zL rfl e2 ?_)))))))
   by_cases hbc : c = b
   ·skip
    refine WPt.opT rfl rfl rfl rfl (o_bin rfl rfl bEql) (by simp; exact_mod_cast hbc) ?_
    refine WPt.nil ⟨⟨trivial, trivial, trivial, trivial, trivial, trivial, trivial, trivial, trivial, trivial⟩, ?_⟩
    refine zi rfl (zg rfl (zm rfl (zb rfl (by exact bAdd (wrapS (by omega) (by omega))) ?_)))
    refine za rfl (zv (WP.exit ?_))
    exact ih (i + 1) acc av cs h _ Q (by omega) (by omega) (by omega) s (fun l hl => hacc l (.skip i l (by omega) (by rw [hb, hc, hbc]) hl)) ⟨rfl, rfl, rfl, rfl, rfl, trivial⟩ hq
   ·skip
    refine WPt.opF rfl rfl rfl rfl (o_bin rfl rfl bEql) (by simp; omega) ?_
    refine WPt.nil ⟨⟨trivial, trivial, trivial, trivial, trivial, trivial, trivial, trivial, trivial, trivial⟩, ?_⟩
    refine zj rfl (WP.skip (zg rfl (zm rfl (zb rfl (by exact bAdd (wrapS (by omega) (by omega))) ?_))))
    refine za rfl (zv (zw (zg rfl (zm rfl (za rfl (zv (WP.block ?_)))))))
    refine rg_inner s (k1 := 2) (k2 := 3) rfl hX rfl hY hl1 hl2 (512 - (i + 1)) (i + 1) (i + 1) _ _ (by omega) (Nat.lt_succ_self i) (Nat.le_refl _) ⟨rfl, rfl, rfl, rfl, rfl, rfl, rfl, trivial⟩ (fun e' E' he1 he2 hE' => ?_)
    refine WP.has hE' ?_
    have hsv := slice_view hv (a := i) (b := e') (by omega) (by omega)
    refine zg rfl (zm rfl (zm rfl (zm rfl (zm rfl (zm rfl (zm rfl (zo rfl (o_slice (p := some (.int .i64 (i : Int))) (q := some (.int .i64 (e' : Int))) (m := none) (p' := some i) (q' := some e') (m' := none) rfl rfl rfl rfl (by rw [bnd_ok (by omega)]; rfl) (by rw [bnd_ok (by omega)]; rfl) rfl hsv.1) ?_)))))))
    refine WPs.call rfl rfl rfl rfl rfl rfl rfl (clone_atom hT (s.bringS [3]) (rd_slice hY (a := i) (b := e') (by omega) (by omega)) (by simp; omega)) ?_
    intro w h s
    dsimp only [bringA, getA, delA] at s
    obtain ⟨wid, _, wcap, _, rfl, _⟩ := s.openBuf (by simp; omega)
    have s := s.freezeBuf
    generalize hbs : (now.take e').drop i = bs at s
    refine zo rfl (o_build rfl (by rw [bv54]; rfl)) ?_
    obtain ⟨rv, h1, e1', s1⟩ := sat_bs1 (P := Tryz.prog) (k := 4) (x := .agg [.int .i64 pg, .int .i64 (i : Int), .bool false, .sl wid 0 bs.length wcap]) s Tryz.underlying38 zt54 sz54 rfl (by decide) (by decide) rfl rfl
    dsimp only [V.cells] at s1
    refine WPs.any rfl rfl rfl (OpR.of (R := fun v h' => v = rv ∧ h' = h1) (o_bs rfl e1') ⟨rfl, rfl⟩) ?_
    rintro v' h' ⟨rfl, rfl⟩
    obtain ⟨i1, hi1, hi2, hi3⟩ := info_chg
    have hcl : cs.length = acc.length * 4 := by
     obtain ⟨a, b, q1, q2, q3⟩ := s1.at (k := 4) rfl
     exact chgA_len q3
    obtain ⟨av', h2, e2', s2⟩ := sat_appArr (s1.bringS [3, 0]) Tryz.underlying38 hi1 zt54 hi2 (by omega) rfl (by decide) (by simp only [List.length_cons, List.length_nil]; omega)
    dsimp only [bringA, getA, delA] at s2
    refine WPs.any rfl rfl rfl (OpR.of (R := fun v h' => v = av' ∧ h' = h2) (o_app rfl rfl e2') ⟨rfl, rfl⟩) ?_
    rintro v' h' ⟨rfl, rfl⟩
    refine za rfl (zv (zr rfl (zm rfl (za rfl (zv ?_)))))
    have s3 : Sat _ (chgA cs acc :: .rob (.sl wid 0 bs.length wcap) bs :: _) := s2.bringS [4, 2]
    have s4 := s3.two (C := chgA (cs ++ [.int .i64 pg, .int .i64 (i : Int), .bool false, .sl wid 0 bs.length wcap]) (acc ++ [⟨pg, i, false, bs⟩])) (Pers.chg _ _) (Pers.rob _ _) fun a b q1 q2 => chgA_app q1 ⟨⟨⟨rfl, rfl, rfl⟩, q2⟩, trivial⟩
    dsimp only [bringA, getA, delA] at s4
    have s5 := (s4.bringS [1, 0, 2, 1]).del 4
    dsimp only [bringA, getA, delA] at s5
    refine ih e' (acc ++ [⟨pg, (i : Int), false, bs⟩]) _ _ _ _ Q (by omega) he2 (by simp; omega) s5 (fun l hl => ?_) ⟨rfl, rfl, rfl, rfl, rfl, trivial⟩ hq
    have := hacc _ (.take i e' l he1 (by omega) hl)
    rw [hbs] at this
    rwa [List.append_assoc]
  ·have hi5 : i = 512 := by omega
   refine WP.loop (WP.has hE (zw (zg rfl (zm rfl (zm rfl (zo rfl (o_len rfl rfl rfl hlen) (WPs.opF rfl rfl rfl (o_bin rfl rfl bLss) (by simp <;> omega) ?_)))))))
   refine zv (zj rfl (WP.exit ?_))
   have := hacc [] (.done _ (by omega))
   rw [List.append_nil] at this
   exact hq av cs acc _ _ this (by omega) s ⟨rfl, rfl, trivial⟩
theorem ranges_ct (hT : W told) {pg : Int} (s : Sat h (X :: Y :: S)) (hX : Ent X (rdB u was)) (hY : Ent Y (rdB v now)) (hl1 : was.length = 512) (hl2 : now.length = 512) :
  Call ⟨Tryz.prog, told⟩ 87 [.int .i64 pg, u, v] h fun w h' => ∃ cs l, RgF pg was now l ∧ l.length ≤ 512 ∧ Sat h' (.arr 4 w cs :: chgA cs l :: X :: Y :: S) := by
 refine Call.of_wp (hT.free _ rfl) Tryz.func87 rfl rfl (zg rfl (za rfl (zv (zg rfl (za rfl (zv (zw (zg rfl (za rfl (zv (WP.block ?_)))))))))))
 refine rg_outer hT (pg := pg) hX hY hl1 hl2 500 12 [] .sl0 [] _ _ _ (by omega) (by omega) (by simp) ((s.addPu trivial).nilArr) (fun l hl => hl) ⟨rfl, rfl, rfl, rfl, rfl, trivial⟩ (fun av' cs' l E' h' hr hll s' hE' => ?_)
 have s := s'
 have hlen := s.chgLen (j1 := 0) (j2 := 1) rfl rfl Tryz.underlying38
 have hav := s.arrV (j := 0) rfl
 refine WP.has hE' (zw (zg rfl (zm rfl (zo rfl (o_len rfl rfl rfl hlen) ?_))))
 by_cases hnil : l = []
 ·skip
  refine WPs.opT rfl rfl rfl (o_bin rfl rfl bEql) (by subst hnil; rfl) ?_
  refine zv (zi rfl (zg rfl (zm rfl (zo rfl (o_build rfl (by rw [bv54]; rfl)) ?_))))
  obtain ⟨rv, h1, e1', s1⟩ := sat_bs1 (P := Tryz.prog) (k := 4) (x := .agg [.int .i64 pg, .int .i64 0, .bool false, .sl0]) s Tryz.underlying38 zt54 sz54 rfl (by decide) (by decide) rfl rfl
  dsimp only [V.cells] at s1
  refine WPs.any rfl rfl rfl (OpR.of (R := fun v h' => v = rv ∧ h' = h1) (o_bs rfl e1') ⟨rfl, rfl⟩) ?_
  rintro v' h' ⟨rfl, rfl⟩
  refine za rfl (zv ?_)
  refine WP.ret ⟨trivial, _, rfl, ?_⟩
  refine ⟨[.int .i64 pg, .int .i64 0, .bool false, .sl0], [⟨pg, 0, false, []⟩], ⟨l, hr, by rw [if_pos hnil]⟩, by simp, ?_⟩
  have s2 := (s1.del 2).del 1
  have s3 : Sat _ (.rob .sl0 [] :: .arr 4 v' _ :: X :: Y :: S) := s2.nilRo
  have s4 := s3.ent (B := chgA [.int .i64 pg, .int .i64 0, .bool false, .sl0] [⟨pg, 0, false, []⟩]) fun a b q => ⟨⟨⟨rfl, rfl, rfl⟩, q⟩, trivial⟩
  exact s4.bringS [1, 0]
 ·skip
  refine WPs.opF rfl rfl rfl (o_bin rfl rfl bEql) (by cases l with | nil => exact absurd rfl hnil | cons _ _ => simp; omega) ?_
  refine zv (zj rfl (WP.skip (zg rfl (zm rfl (za rfl (zv ?_))))))
  refine WP.ret ⟨trivial, _, rfl, ?_⟩
  exact ⟨_, l, ⟨l, hr, by rw [if_neg hnil]⟩, hll, s⟩
end
end Go.Proofs.YtconhghphklfjaaGreat.Am
namespace Go.Proofs.YtconhghphklfjaaGreat.Am
open Go
def chCount (m : List Fm) : Nat := (m.map (·.changed)).count true
theorem chCount_set {f g : Fm} : ∀ {m : List Fm} {i : Nat}, m[i]? = some f → chCount (m.set i g) + f.changed.toNat = chCount m + g.changed.toNat := by
 intro m
 induction m with
 | nil => intro i h; simp at h
 | cons x m ih =>
  intro i h
  cases i with
  | zero =>
   simp at h
   subst h
   simp only [chCount, List.set_cons_zero, List.map_cons, List.count_cons]
   cases x.changed <;> cases g.changed <;> simp
  | succ i =>
   rw [List.getElem?_cons_succ] at h
   have := ih h
   simp only [chCount, List.set_cons_succ, List.map_cons, List.count_cons] at this ⊢
   omega
theorem chCount_le {g : Fm} (hg : g.changed = false) : ∀ {m : List Fm} {i : Nat}, chCount (m.set i g) ≤ chCount m := by
 intro m i
 cases h : m[i]? with
 | none =>
  have : m.length ≤ i := by simpa using h
  rw [List.set_eq_of_length_le this]
  exact Nat.le_refl _
 | some f =>
  have := chCount_set (g := g) h
  rw [hg] at this
  simp only [Bool.toNat_false] at this
  omega
def pot (ε : Eng) : Nat := ε.2.2.waiting.length + chCount ε.1.frames
theorem pot_wait {ε : Eng} : ε.2.2.waiting.length ≤ pot ε := Nat.le_add_right _ _
theorem Near.count {π π' : Pl} (hn : Near π π') : chCount π'.frames = chCount π.frames := by
 have : π'.frames.map (·.changed) = π.frames.map (·.changed) := by
  refine List.ext_getElem? fun i => ?_
  rw [List.getElem?_map, List.getElem?_map]
  cases h : π.frames[i]? with
  | none =>
   have h1 : π.frames.length ≤ i := by simpa using h
   have : π'.frames[i]? = none := by simp [hn.len, h1]
   rw [this]
  | some f =>
   obtain ⟨t, ht⟩ := hn.get i f h
   rw [ht]; rfl
 simp only [chCount, this]
theorem writeF_wait0 {δ : Dk} {n : Int} {b : List Nat} (h : (δ.writeF n b).1 ≠ 0) : (δ.writeF n b).2.waiting = δ.waiting := by
 unfold Dk.writeF at h ⊢
 split
 ·rfl
 ·rename_i h1
  rw [if_neg h1] at h
  split
  ·rfl
  ·rename_i h2
   rw [if_neg h2] at h
   split
   ·rfl
   ·rename_i h3
    rw [if_neg h3] at h
    exact absurd rfl h
theorem outF_pot {ε : Eng} {i : Nat} : pot (outF ε i).2 ≤ pot ε := by
 unfold outF
 split
 ·exact Nat.le_refl _
 ·rename_i f hf
  split
  ·exact Nat.le_refl _
  ·rename_i hc
   have hc : f.changed = true := by cases h : f.changed <;> simp [h] at hc ⊢
   split
   ·exact Nat.le_refl _
   ·split
    ·simp only [pot, forceLD_wait]; exact Nat.le_refl _
    ·split
     ·rename_i hw
      simp only [pot, writeF_wait0 hw, forceLD_wait]; exact Nat.le_refl _
     ·have h1 := writeF_wait (δ := (forceLD ε.2 (atL f.b 4 8)).2.2) (n := f.page) (b := f.b)
      rw [forceLD_wait] at h1
      have h2 := chCount_set (g := { f with changed := false }) hf
      simp only [hc, Bool.toNat_true, Bool.toNat_false] at h2
      simp only [pot]
      omega
theorem freed_pot {π : Pl} {i : Nat} {f : Fm} : chCount (freed π i f).frames ≤ chCount π.frames := chCount_le rfl
theorem PinR.pot {ε ε' : Eng} {n e : Int} {b : List Nat} (hr : PinR ε n e b ε') : Am.pot ε' ≤ Am.pot ε := by
 have near : ∀ {π' : Pl}, Near ε.1 π' → ∀ i, Am.pot (outF (π', ε.2) i).2 ≤ Am.pot ε := fun {π'} hn i => by
  have := outF_pot (ε := (π', ε.2)) (i := i)
  refine Nat.le_trans this ?_
  simp only [Am.pot, hn.count]
  exact Nat.le_refl _
 cases hr with
 | arg _ => exact Nat.le_refl _
 | hit i f h1 h2 hl hf =>
  have h2 := chCount_set (g := { f with touch := true, pins := f.pins + 1 }) hf
  simp only [Am.pot] at h2 ⊢
  omega
 | out π' i f h1 h2 hl hn hf hh he => exact near hn i
 | read π' i f h1 h2 hl hn hf hh he hr => exact Nat.le_trans (Nat.add_le_add_left freed_pot _) (near hn i)
 | bad π' i f h1 h2 hl hn hf hh he hr hc => exact Nat.le_trans (Nat.add_le_add_left freed_pot _) (near hn i)
 | load π' i f h1 h2 hl hn hf hh he hr hc => exact Nat.le_trans (Nat.add_le_add_left (Nat.le_trans (chCount_le rfl) freed_pot) _) (near hn i)
theorem unpinF_pot {π : Pl} {n : Int} : chCount (unpinF π n).2.frames = chCount π.frames := by
 unfold unpinF
 split
 ·rfl
 ·split
  ·rfl
  ·rename_i i hi f hf
   have h2 := chCount_set (g := { f with pins := f.pins - 1 }) hf
   simp only at h2 ⊢
   omega
theorem RdR.pot {ε ε' : Eng} {n e : Int} {b : List Nat} (hr : RdR ε n e b ε') : Am.pot ε' ≤ Am.pot ε := by
 cases hr with
 | dead _ => exact Nat.le_refl _
 | pin e b ε' hd hr he => exact hr.pot
 | unpin b ε' hd hr he => have := hr.pot; simp only [Am.pot, unpinF_pot] at this ⊢; exact this
 | read b ε' hd hr he => have := hr.pot; simp only [Am.pot, unpinF_pot] at this ⊢; exact this
theorem GRd.pot {ε ε' : Eng} {now : List (Int × List Nat)} {over : Bool} {n e : Int} {b : List Nat} (hr : GRd ε now over n e b ε') : Am.pot ε' ≤ Am.pot ε := by
 cases hr with
 | arg _ => exact Nat.le_refl _
 | over _ _ _ => exact Nat.le_refl _
 | own _ _ _ _ _ => exact Nat.le_refl _
 | read e b ε' h1 h2 h3 hl hr => exact hr.pot
theorem GWr.pot {ε ε' : Eng} {now now' : List (Int × List Nat)} {over : Bool} {n e : Int} {b : List Nat} (hr : GWr ε now over n b e now' ε') : Am.pot ε' ≤ Am.pot ε := by
 cases hr with
 | may e c ε' hr he => exact hr.pot
 | bad c ε' hr hg => exact hr.pot
 | done c ε' hr hg => exact hr.pot
end Go.Proofs.YtconhghphklfjaaGreat.Am
