/- Whatever groups are done and dropped, written out and checkpointed between, each page is as the groups that were done made it; the conditions are those of the given statement, for arguments that a machine can hold. Part 48 of 49. -/
import Derived.Test.YtconhghphklfjaaGreatP47
import Derived.Test.YtconhghphklfjaaGreatP35
import Derived.WalkKit
import Derived.ProofKit
import Derived.OpenShut
import Derived.ChangeSlices
import Derived.Test.YtconhghphklfjaaGreatRows
namespace Go.Proofs.YtconhghphklfjaaGreat.Am
open Go
theorem zero_check : checkL (List.replicate 512 0) = 0 := by rw [checkL, if_pos rfl]
theorem zero_body : bodyF (List.replicate 512 0) = [] := by rw [bodyF, if_pos (.inr rfl)]
def fresh (n m f : Nat) : Eng := (Pl.fresh f, (Lg.fresh, Dk.fresh n m))
theorem fresh_at {n m : Nat} (k : Int) : (Dk.fresh n m).at k = List.replicate 512 0 := by
 rw [Dk.at, show lookL k (Dk.fresh n m).now = none from rfl]
 simp only [Dk.fresh]
 cases hq : (List.replicate n (none : Option (List Nat)))[k.toNat]? with
 | none => rfl
 | some o =>
  have := List.eq_of_mem_replicate (List.mem_of_getElem? hq)
  subst this
  rfl
theorem pgA_fresh {n m f : Nat} (k : Int) : pgA (fresh n m f) k = List.replicate 512 0 := by
 rw [pgA_none (by rfl)]
 exact fresh_at k
theorem fresh_frames {f i : Nat} {x : Fm} (h : (Pl.fresh f).frames[i]? = some x) : x = emptyF := List.eq_of_mem_replicate (List.mem_of_getElem? h)
theorem EI.fresh {n m f : Nat} (hn : n ≤ 65536) (hm : m ≤ 16777216) (hf : 1 ≤ f) (hf2 : f ≤ 1024) : EI n 1 (fresh n m f) := by
 have hfr : ∀ x ∈ (Pl.fresh f).frames, x = emptyF := fun x hx => List.eq_of_mem_replicate hx
 have hlen : (Pl.fresh f).frames.length = f := List.length_replicate
 refine ⟨⟨⟨⟨(show 0 < (Pl.fresh f).frames.length by rw [hlen]; omega), (show (Pl.fresh f).frames.length ≤ 1024 by rw [hlen]; exact hf2), fun e he => (by cases he), fun x hx => by rw [hfr x hx]; decide, fun x hx => by rw [hfr x hx]; decide⟩, Lg.fresh_ok, ?_⟩, fun x hx => by rw [hfr x hx]; rfl, ⟨List.nodup_nil, fun k i hk => (by cases hk)⟩⟩, ⟨?_, List.nodup_nil, fun k i hk => (by cases hk), fun i x hx => .inl (by rw [fresh_frames hx]; decide), fun k hk => (by cases hk), List.nodup_nil⟩, ⟨rfl, Nat.le_refl _, (show (1 : Nat) + 0 ≤ 1 * 1048600 by decide)⟩, ?_⟩
 ·exact ⟨(show (-1 : Int) < 4294967296 by decide), Nat.zero_le _, hm, fun e he => (by cases he), fun i b hb => (by have h1 : some b = none := List.eq_of_mem_replicate (List.mem_of_getElem? hb); cases h1), Nat.le_refl _, (show (List.replicate n (none : Option (List Nat))).length ≤ 65536 by rw [List.length_replicate]; exact hn)⟩
 ·exact ⟨rfl, (show (-1 : Int) < 0 by decide), List.length_replicate, fun k hk => (by cases hk), List.nodup_nil, fun k h0 h1 => by show checkL ((Dk.fresh n m).at k) = 0; rw [fresh_at]; exact zero_check⟩
 ·have e : chCount (Pl.fresh f).frames = 0 := by
   rw [chCount, List.count_eq_zero]
   intro hh
   obtain ⟨x, hx, hc⟩ := List.mem_map.1 hh
   rw [hfr x hx] at hc
   cases hc
  show ([] : List Wr).length + chCount (Pl.fresh f).frames ≤ _
  rw [e]; decide
theorem PgS.fresh {n m f : Nat} : PgS (Am.fresh n m f) (List.replicate n []) := fun k w hw => by
 rw [pgA_fresh, zero_body]
 exact (List.eq_of_mem_replicate (List.mem_of_getElem? hw)).symm
structure W3 (told : Nat → Option (List V → H → Option (V × H))) : Prop where
 w : W2 told
 aw : ∃ g, told 11 = some g ∧ ∀ h, g [] h = some (.bool true, h)
theorem deed_at {h : H} {S : List Assn} {cs : List V} {m : List Deed} {i : Nat} {x : Deed} (s : Sat h (deedsA cs m :: S)) (hx : m[i]? = some x) :
  ∃ w d, (cs.drop (i * 4)).take 4 = [.int .i64 x.act, .int .i64 x.keep, w, d] ∧ Sat h (deedA w d x :: deedsA cs m :: S) := by
 obtain ⟨a, b, q1, q2, q3⟩ := s.at (k := 0) rfl
 obtain ⟨u, v, e1, e2⟩ := deedsA_get q3 hx
 refine ⟨u, v, e1, (s.dup (Pers.deedsA _ _)).ent (B := deedA u v x) fun a b h => ?_⟩
 obtain ⟨u', v', e1', e2'⟩ := deedsA_get h hx
 rw [e1] at e1'
 injection e1' with _ e1'
 injection e1' with _ e1'
 injection e1' with hu e1'
 injection e1' with hv _
 subst hu
 subst hv
 exact e2'
theorem deeds_len {h : H} {S : List Assn} {cs : List V} {m : List Deed} {k : Nat} (s : Sat h S) (hk : getA S k = some (deedsA cs m)) : cs.length = m.length * 4 := by
 obtain ⟨a, b, q1, q2, q3⟩ := s.at hk
 exact deedsA_len q3
section
variable {told : Nat → Option (List V → H → Option (V × H))} {h : H} {S : List Assn} {X : Assn} {r k q p a g chk N B : Nat} {op v x pv nv wv dv lv : V} {l data : List Nat} {ε : Eng} {ps nx : List (List Nat)} {L : List Deed} {cs : List V}
theorem awake_ct (hT : W3 told) (s : Sat h S) : Call ⟨Tryz.prog, told⟩ 11 [] h fun v h' => v = .bool true ∧ h' = h := by
 obtain ⟨g, h1, h2⟩ := hT.aw
 exact ⟨_, _, CallDo.told h1 Tryz.func11 rfl (h2 h), rfl, rfl⟩
noncomputable def apL : Code := pathC [1, 1, 1, 1, 1, 1, 0, 1, 0, 0] ((Tryz.f5.body).getD .skip)
theorem plays_loop (hT : W3 told) (hL : L.length ≤ 200) (hD : ∀ D ∈ L, D.data.length ≤ 1048576 ∧ D.w.length ≤ 1048576 ∧ ∀ x ∈ D.w, x.2.length ≤ 1048576) : ∀ (j i : Nat) (ε : Eng) (ps : List (List Nat)) (pv : V) (data : List Nat) (chk : Nat) (h : H) (E : List (Nat × V)) (Q : Ex → List (Nat × V) → H → Prop), i + j = L.length → EI 12 (1 + 2 * i) ε → ps.length = 12 → PgS ε ps → data.length ≤ 1048576 →
  Sat h (isSt a p q r .ptr0 data chk :: isPl r p q ε.1 :: isLg q p ε.2.1 :: isDk p ε.2.2 :: .arr 1 pv (strsV ps) :: rowA 4 lv cs :: deedsA cs L :: S) → Has E [(1, lv), (6, .ptr a 0), (7, pv), (8, .int .i64 (i : Int))] →
  (∀ E' h', Q (.exit 0) E' h') →
  WP ⟨Tryz.prog, told⟩ 59 (.loop apL) E h Q := by
 intro j
 induction j with
 | zero =>
  intro i ε ps pv data chk h E Q hi hε hN hp hd s hE hx
  have hlen := deeds_len s (k := 6) rfl
  refine WP.loop (WP.has hE (zw (zg rfl (zm rfl (zm rfl (zo rfl (o_len rfl rfl rfl (s.rowLen (n := L.length) (j := 5) rfl hlen (by decide) Tryz.underlying56)) ?_))))))
  refine WPs.opF rfl rfl rfl (o_bin rfl rfl bLss) (by simp <;> omega) ?_
  refine zv (zj rfl (WP.exit ?_))
  exact hx _ _
 | succ j ih =>
  intro i ε ps pv data chk h E Q hi hε hN hp hd s hE hx
  have hlen := deeds_len s (k := 6) rfl
  have hxi : L[i]? = some (L[i]'(by omega)) := List.getElem?_eq_getElem _
  generalize (L[i]'(by omega)) = D at hxi
  have hDi := hD D (List.mem_of_getElem? hxi)
  obtain ⟨wv, dv, c1, s⟩ := deed_at (s.bringS [6]) hxi
  dsimp only [bringA, getA, delA] at s
  obtain ⟨id, off, g1, g2⟩ := s.rowLd (P := Tryz.prog) (i := i) (j := 7) rfl (by omega) (by decide) Tryz.underlying56 sz62 ag62
  rw [c1] at g2
  have s := s.bringS [2, 2, 2, 2, 2, 0, 1, 0]
  dsimp only [bringA, getA, delA] at s
  refine WP.loop (WP.has hE (zw (zg rfl (zm rfl (zm rfl (zo rfl (o_len rfl rfl rfl (s.rowLen (n := L.length) (j := 6) rfl hlen (by decide) Tryz.underlying56)) ?_))))))
  refine WPs.opT rfl rfl rfl (o_bin rfl rfl bLss) (by simp <;> omega) ?_
  refine zv (zi rfl (WP.skip (zw (WP.block (zg rfl (zm rfl (zm rfl (zm rfl (zm rfl (zo rfl (o_ia (r := .ptr id off) rfl rfl g1) (zl rfl g2 (WPs.call rfl rfl rfl rfl rfl rfl rfl (play_ct hT.w (B := 1 + 2 * i) (by omega) hε hN hp hd hDi s) ?_))))))))))))
  rintro v h ⟨e, ps', pv', lsn, ε', data', chk', he, i1, i2, i3, i4, rfl, s⟩
  refine zm rfl (ze rfl (ze rfl (ze rfl (ze rfl (za rfl (za rfl (za rfl (za rfl (zv (zw (zg rfl (zm rfl (WPs.opF rfl rfl rfl (o_un rfl rfl) (rfl) (zm rfl (zm rfl (WPs.opF rfl rfl rfl (o_bin rfl rfl bEql) (by simp; exact he) ?_))))))))))))))))
  refine zp rfl (zm rfl (zm rfl (zm rfl (WPs.call rfl rfl rfl rfl rfl rfl rfl (same_ct hT.w.w i2 (by decide) (by omega) i1 i3 s) ?_))))
  rintro v h ⟨rfl, ε'', j1, j2, s⟩
  refine WPs.opF rfl rfl rfl (o_un rfl rfl) (rfl) (zp rfl (zv (zj rfl (WP.skip (zr rfl (zm rfl (za rfl (zv (zr rfl (zm rfl (zb rfl (by exact bAdd (wrapS (by omega) (by omega))) ?_)))))))))))
  refine za rfl (zv ?_)
  exact ih (i + 1) ε'' ps' pv' data' chk' _ _ Q (by omega) (j1.more (by omega)) i2 (i3.of fun m _ => j2 m) i4 s ⟨rfl, rfl, rfl, rfl, trivial⟩ hx
theorem plays_ct (hT : W3 told) {fr : Int} (hD : ∀ D ∈ L, D.data.length ≤ 1048576 ∧ D.w.length ≤ 1048576 ∧ ∀ x ∈ D.w, x.2.length ≤ 1048576) (hLn : L.length ≤ 1048576) (s : Sat h (rowA 4 lv cs :: deedsA cs L :: S)) :
  Call ⟨Tryz.prog, told⟩ 5 [.int .i64 fr, lv] h fun v h' => v = .bool true := by
 have hlen := deeds_len s (k := 1) rfl
 obtain ⟨fn, hfn, e1⟩ := and_i64 (P := Tryz.prog) (h := h) (t := 3) (x := .tmp 19) (y := .const (.int .i64 7)) (k := fr) (m := 7) (by decide)
 refine Call.of_wp (hT.w.w.free _ rfl) Tryz.func5 rfl rfl (zg rfl (za rfl (zv (zw (zg rfl (WPs.call rfl rfl rfl rfl rfl rfl rfl (awake_ct hT s) ?_))))))
 rintro v h' ⟨rfl, rfl⟩
 refine WPs.opF rfl rfl rfl (o_un rfl rfl) (rfl) (zv (zj rfl (WP.skip (zw (zg rfl (zm rfl (zo rfl (o_len rfl rfl rfl (s.rowLen (n := L.length) (j := 0) rfl hlen (by decide) Tryz.underlying56)) ?_)))))))
 by_cases hL : 200 < L.length
 ·skip
  refine WPs.opT rfl rfl rfl (o_bin rfl rfl bGtr) (by simp; omega) ?_
  refine zv (zi rfl (zg rfl (za rfl (zv ?_))))
  refine WP.ret ⟨trivial, _, rfl, ?_⟩
  trivial
 ·skip
  refine WPs.opF rfl rfl rfl (o_bin rfl rfl bGtr) (by simp; omega) ?_
  refine zv (zj rfl (WP.skip (zg rfl (zm rfl (zb rfl e1 (zb rfl (by exact bAdd (wrapS (by omega) (by omega))) ?_))))))
  have e2 : (10 : Int) + (fn : Int) = ((10 + fn : Nat) : Int) := by omega
  rw [e2]
  refine WPs.call rfl rfl rfl rfl rfl rfl rfl (lawOpen_ct (n := 12) (m := 65536) (f := 10 + fn) hT.w.w s (by decide) (by decide) (by decide) (by omega) (by omega)) ?_
  rintro v h ⟨p, a, q, r, rfl, s⟩
  refine zm rfl (ze rfl (ze rfl (za rfl (za rfl (zv (zw (zg rfl (zm rfl (WPs.opF rfl rfl rfl (o_bin rfl rfl (eqlP0 Tryz.underlying24)) (rfl) ?_)))))))))
  obtain ⟨i1, hi1, hi2, hi3⟩ := info_str
  obtain ⟨pv, h1, e3, s1⟩ := sat_mkArr (P := Tryz.prog) s Tryz.underlying57 hi1 zt9 hi2 (by omega) rfl (by decide) (by decide) (n := 12) (c := 12) (by decide) (by decide)
  refine zv (zj rfl (WP.skip (zg rfl (WPs.any rfl rfl rfl (OpR.of (R := fun v h' => v = pv ∧ h' = h1) (o_mks rfl rfl e3) ⟨rfl, rfl⟩) ?_))))
  rintro v h ⟨rfl, rfl⟩
  have s : Sat h (.arr 1 v (strsV (List.replicate 12 [])) :: _) := s1
  refine za rfl (zv (zw (zg rfl (za rfl (zv (WP.block ?_))))))
  refine plays_loop hT (cs := cs) (by omega) hD L.length 0 (fresh 12 65536 (10 + fn)) (List.replicate 12 []) _ _ _ _ _ _ (by omega) (EI.fresh (by decide) (by decide) (by omega) (by omega)) rfl PgS.fresh (Nat.zero_le _) (s.bringS [1, 1, 1, 1, 0]) ⟨rfl, rfl, rfl, rfl, trivial⟩ (fun E' h' => ?_)
  refine WP.has (F := []) trivial (zg rfl (za rfl (zv ?_)))
  refine WP.ret ⟨trivial, _, rfl, ?_⟩
  rfl
end
end Go.Proofs.YtconhghphklfjaaGreat.Am
namespace Go.Proofs.YtconhghphklfjaaGreat.Am
open Go
set_option maxRecDepth 10000000 in
set_option maxHeartbeats 0 in
theorem awake_runs : isTrue (runF CB 100000 11 [] ⟨0, .lf⟩) = true := by kernel_rfl
noncomputable def toldAw : List V → H → Option (V × H)
 | [], h => some (.bool true, h)
 | _, _ => none
theorem Rel.grown {c : Ctx} {σ : H} {w w' : World} (h : Rel c σ w) (hs : w.heap.size ≤ w'.heap.size) (hb : ∀ b, b < w.heap.size → w'.heap[b]? = w.heap[b]?) (ho : w'.os = w.os ∧ w'.output = w.output) : Rel c σ w' ∧ Stp c w c w' := by
 have rows : ∀ b, b < w.heap.size → rowSize w' b = rowSize w b := fun b hlt => by unfold rowSize; rw [hb b hlt]
 refine ⟨⟨h.next, h.live, fun id hi => Nat.lt_of_lt_of_le (h.blk id hi) hs, fun id hi => by rw [rows _ (h.blk id hi)]; exact h.zz id hi, h.inj,
  fun id o ho => (h.obj id o ho).later (Ext.refl c) (h.live id o ho) (hb _ (h.blk id (h.live id o ho))), h.one, h.fx⟩,
  ⟨Ext.refl c, hs, rows, fun b hlt _ => hb b hlt, fun id h1 h2 => by omega, ho⟩⟩
theorem toldAw_ok : ToldOne Tryz.prog 11 toldAw := by
 refine .inl ⟨⟨_, Tryz.func11, rfl, by decide⟩, fun args σ v σ' hr c w h hw => ?_⟩
 unfold toldAw at hr
 split at hr
 ·simp only [Option.some.injEq, Prod.mk.injEq] at hr
  obtain ⟨rfl, rfl⟩ := hr
  have hrun := awake_runs
  rw [runF_eq] at hrun
  cases hq : run CB 100000 11 [] ⟨0, .lf⟩ with
  | none => rw [hq] at hrun; cases hrun
  | some x =>
   obtain ⟨v, h'⟩ := x
   rw [hq] at hrun
   have hv : v = .bool true := by
    unfold isTrue at hrun
    split at hrun
    ·rename_i he; simp only [Option.some.injEq, Prod.mk.injEq] at he; exact he.1
    ·cases hrun
   subst hv
   have := run_ok (C := CB) mixedB toldB_ok hq (Rel.empty w) (fun x hx => by cases hx)
   unfold CallOk at this ⊢
   refine Calls.mono this ?_
   rintro e w' ⟨c', rfl, _, _, hs⟩
   obtain ⟨g1, g2⟩ := h.grown hs.size (fun b hb => hs.keep b hb fun id hid => absurd hid (Nat.not_lt_zero _)) hs.sys
   exact ⟨c, rfl, trivial, g1, g2⟩
 ·cases hr
end Go.Proofs.YtconhghphklfjaaGreat.Am
namespace Go.Proofs.YtconhghphklfjaaGreat.Am
open Go
noncomputable def toldL (f : Nat) : Option (List V → H → Option (V × H)) :=
 cond (Nat.beq f 11) (some toldAw) (cond (Nat.beq f 75) (some (toldIf Tryz.prog 75 pinSync))
  (cond (Nat.beq f 76) (some (toldIf Tryz.prog 76 pinDel)) (toldB f)))
noncomputable abbrev CL : Cfg := ⟨Tryz.prog, toldL⟩
theorem toldL_w3 : W3 toldL := by
 refine ⟨⟨⟨fun f hf => ?_, rfl, rfl⟩, rfl, rfl⟩, toldAw, rfl, fun _ => rfl⟩
 have h1 : f ≠ 11 := fun e => by subst e; revert hf; decide
 have h2 : f ≠ 75 := fun e => by subst e; revert hf; decide
 have h3 : f ≠ 76 := fun e => by subst e; revert hf; decide
 simp only [toldL, beqF h1, beqF h2, beqF h3, cond_false]
 exact W.base.free f hf
theorem toldL_ok : ToldOk CL := by
 intro f g hg
 simp only [CL, toldL] at hg ⊢
 by_cases h1 : f = 11
 ·subst h1
  rw [beqT rfl, cond_true] at hg
  simp only [Option.some.injEq] at hg
  subst hg
  exact toldAw_ok
 ·rw [beqF h1, cond_false] at hg
  by_cases h2 : f = 75
  ·subst h2
   rw [beqT rfl, cond_true] at hg
   simp only [Option.some.injEq] at hg
   subst hg
   exact toldIf_ok ⟨_, Tryz.func75, rfl, by decide⟩
  ·rw [beqF h2, cond_false] at hg
   by_cases h3 : f = 76
   ·subst h3
    rw [beqT rfl, cond_true] at hg
    simp only [Option.some.injEq] at hg
    subst hg
    exact toldIf_ok ⟨_, Tryz.func76, rfl, by decide⟩
   ·rw [beqF h3, cond_false] at hg
    exact toldB_ok f g hg
theorem CallDo.ok {f : FuncId} {args : List V} {h h' : H} {v : V} (hd : CallDo CL f args h v h') {c : Ctx} {w : World} (hrel : Rel c h w) (hw : ∀ x ∈ args, wf c x) : CallOk Tryz.prog f args c w v h' := by
 obtain ⟨N, hN⟩ := hd
 exact (callF_ok (C := CL) (ev_ok mixedB toldL_ok N).1 toldL_ok hN hrel hw).1
def AllX (c : Ctx) : Prop := ∀ id, id < c.N → c.X id = true
noncomputable def Ctx.fix (c : Ctx) (w : World) (b off : Nat) : Ctx := ⟨fun i => if i = c.N then (b, off) else c.ρ i, fun x => if x = b then rowSize w b else c.Z x, c.N + 1, fun i => if i = c.N then true else c.X i⟩
theorem Rel.fix {c : Ctx} {σ : H} {w : World} (h : Rel c σ w) (hX : AllX c) {b off : Nat} {cs : List V} {C : Array Value} {e : TypeId} {fz : Nat × Nat} (hb : w.heap[b]? = some (.cells C e fz)) (hl : off + cs.length ≤ C.size)
  (hc : ∀ j v, cs[j]? = some v → C[off + j]? = some (conc c v)) (hwf : ∀ v ∈ cs, wf c v ∧ storable v = true) :
  Rel (c.fix w b off) (σ.new (.cells cs.length cs true)) w ∧ AllX (c.fix w b off) ∧ Ext c (c.fix w b off) ∧ (c.fix w b off).ρ σ.next = (b, off) ∧ σ.next < (c.fix w b off).N := by
 have hold : ∀ i, i < c.N → (c.fix w b off).ρ i = c.ρ i := fun i hi => by simp [Ctx.fix, Nat.ne_of_lt hi]
 have hoX : ∀ i, i < c.N → (c.fix w b off).X i = c.X i := fun i hi => by simp [Ctx.fix, Nat.ne_of_lt hi]
 have hnew : (c.fix w b off).ρ c.N = (b, off) := by simp [Ctx.fix]
 have hnX : (c.fix w b off).X c.N = true := by simp [Ctx.fix]
 have hN : (c.fix w b off).N = c.N + 1 := rfl
 have hlt : b < w.heap.size := (Array.getElem?_eq_some_iff.1 hb).1
 have hall : AllX (c.fix w b off) := fun i hi => by
  by_cases h1 : i = c.N
  ·rw [h1]; exact hnX
  ·rw [hoX i (by rw [hN] at hi; omega)]; exact hX i (by rw [hN] at hi; omega)
 have ex : Ext c (c.fix w b off) := ⟨by rw [hN]; omega, hold, fun i hi => by
  show (if (c.ρ i).1 = b then rowSize w b else c.Z (c.ρ i).1) = _
  split
  ·rename_i he; rw [h.zz i hi, he]
  ·rfl, hoX⟩
 have key : ∀ i o, (σ.new (.cells cs.length cs true)).tr.get i = some o → (i = c.N ∧ o = .cells cs.length cs true) ∨ (i < c.N ∧ σ.tr.get i = some o) := by
  intro i o hi
  rw [get_new, h.next] at hi
  by_cases h1 : i = c.N
  ·simp [h1] at hi; exact .inl ⟨h1, hi.symm⟩
  ·simp [h1] at hi; exact .inr ⟨h.live i o hi, hi⟩
 refine ⟨⟨by simp [H.new, h.next, hN], fun i o hi => ?_, fun i hi => ?_, fun i hi => ?_, fun i j o o' hi hj he => ?_, fun i o hi => ?_, fun i cs₁ st₁ hi hx => ?_, fun i o hi hx => ?_⟩, hall, ex, by rw [h.next]; exact hnew, by rw [h.next, hN]; omega⟩
 ·rw [hN]; rcases key i o hi with ⟨h1, _⟩ | ⟨h1, _⟩ <;> omega
 ·rw [hN] at hi
  by_cases h1 : i = c.N
  ·rw [h1, hnew]; exact hlt
  ·rw [hold i (by omega)]; exact h.blk i (by omega)
 ·rw [hN] at hi
  by_cases h1 : i = c.N
  ·rw [h1, hnew]; show (if b = b then rowSize w b else c.Z b) = _; rw [if_pos rfl]
  ·rw [hold i (by omega)]
   show (if (c.ρ i).1 = b then rowSize w b else c.Z (c.ρ i).1) = _
   split
   ·rename_i he; rw [he]
   ·exact h.zz i (by omega)
 ·have li : i < c.N + 1 := by rcases key i o hi with ⟨h1, _⟩ | ⟨h1, _⟩ <;> omega
  have lj : j < c.N + 1 := by rcases key j o' hj with ⟨h1, _⟩ | ⟨h1, _⟩ <;> omega
  exact .inr ⟨hall i (by rw [hN]; exact li), hall j (by rw [hN]; exact lj)⟩
 ·rcases key i o hi with ⟨rfl, rfl⟩ | ⟨a1, a2⟩
  ·refine ⟨rfl, fun v hv => ⟨(conc_ext ex v (hwf v hv).1).2, (hwf v hv).2⟩, C, e, fz, by rw [hnew]; exact hb, by rw [hnew]; exact hl, fun j v hj => ?_, trivial⟩
   rw [hnew, (conc_ext ex v (hwf v (List.mem_of_getElem? hj)).1).1]
   exact hc j v hj
  ·exact (h.obj i o a2).later ex a1 rfl
 ·have li : i < c.N + 1 := by rcases key i _ hi with ⟨h1, _⟩ | ⟨h1, _⟩ <;> omega
  rw [hall i (by rw [hN]; exact li)] at hx; cases hx
 ·rcases key i o hi with ⟨_, rfl⟩ | ⟨a1, a2⟩
  ·exact ⟨_, _, rfl⟩
  ·rw [hoX i a1] at hx; exact h.fx i o a2 hx
theorem kept_of_fix {c c' : Ctx} {w w' : World} (hX : AllX c) (h : Stp c w c' w') : w.keptBut w' (fun _ => False) ∧ w.heap.size ≤ w'.heap.size ∧ ∀ b, b < w.heap.size → w'.heap[b]? = w.heap[b]? := by
 have hk : ∀ b, b < w.heap.size → w'.heap[b]? = w.heap[b]? := fun b hb => h.keep b hb fun id hid _ => hX id hid
 refine ⟨⟨h.sys.1, h.sys.2, fun i hi => ?_⟩, h.size, hk⟩
 rw [hk i hi]
 split <;> simp_all
end Go.Proofs.YtconhghphklfjaaGreat.Am
namespace Go.Proofs.YtconhghphklfjaaGreat.Am
open Go Go.ChangeShapes
def Redy (W : World) (S : List Assn) (c : Ctx) (σ : H) : Prop := Rel c σ W ∧ AllX c ∧ Sat σ S
theorem Redy.zero (W : World) : ∃ c σ, Redy W [] c σ := by
 refine ⟨_, _, Rel.empty W, fun id h => absurd h (Nat.not_lt_zero _), ⟨fun id o h => by simp [T.get_lf] at h, fun _ => none, fun _ => none, fun _ _ h => (by cases h), fun _ _ h => (by cases h), fun _ => .inl rfl, trivial⟩⟩
theorem Redy.sat {W : World} {S S' : List Assn} {c : Ctx} {σ : H} (h : Redy W S c σ) (hs : ∀ h, Sat h S → Sat h S') : Redy W S' c σ := ⟨h.1, h.2.1, hs σ h.2.2⟩
def Opn {α : Type} (W : World) (cs : List Value) (E : List V → α → Assn) (φ : α → Prop) : Prop :=
 ∀ (c : Ctx) (σ : H) (S : List Assn), Redy W S c σ → ∃ (c' : Ctx) (σ' : H) (vs : List V) (x : α), Redy W (E vs x :: S) c' σ' ∧ Ext c c' ∧ vs.map (conc c') = cs ∧ (∀ v ∈ vs, wf c' v ∧ storable v = true) ∧ φ x
theorem Opn.rows {W : World} {α : Type} {E : List V → α → Assn} {A : List V → List α → Assn} {φ : α → Prop} (hE : ∀ vs x, Pers (E vs x)) (hA : ∀ l m, Pers (A l m)) (hnil : ∀ m r, (A [] []).p m r) (hcons : ∀ vs x l m a b, (E vs x).p a b → (A l m).p a b → (A (vs ++ l) (x :: m)).p a b) :
  ∀ (css : List (List Value)), (∀ cs ∈ css, Opn W cs E φ) → Opn W css.flatten A (fun xs => xs.length = css.length ∧ ∀ x ∈ xs, φ x) := by
 intro css
 induction css with
 | nil =>
  intro _ c σ S h
  exact ⟨c, σ, [], [], h.sat fun h s => (s.addPu (φ := True) trivial).ent fun m r _ => hnil m r, Ext.refl c, rfl, fun v hv => (by cases hv), rfl, fun x hx => (by cases hx)⟩
 | cons cs css ih =>
  intro hc c σ S h
  obtain ⟨c1, σ1, l, m, h1, e1, m1, w1, n1, p1⟩ := ih (fun x hx => hc x (List.mem_cons_of_mem _ hx)) c σ S h
  obtain ⟨c2, σ2, vs, x, h2, e2, m2, w2, p2⟩ := hc cs List.mem_cons_self c1 σ1 _ h1
  obtain ⟨q1, q2⟩ := map_conc_ext e2 fun v hv => (w1 v hv).1
  refine ⟨c2, σ2, vs ++ l, x :: m, h2.sat fun h s => s.two (hE _ _) (hA _ _) fun a b k1 k2 => hcons _ _ _ _ _ _ k1 k2, e1.trans e2, ?_, fun v hv => ?_, by simp [n1], fun y hy => ?_⟩
  ·rw [List.map_append, m2, q1, m1, List.flatten_cons]
  ·rcases List.mem_append.1 hv with hv | hv
   ·exact w2 v hv
   ·exact ⟨q2 v hv, (w1 v hv).2⟩
  ·rcases List.mem_cons.1 hy with rfl | hy
   ·exact p2
   ·exact p1 y hy
def slE {α : Type} (k : Nat) (A : List V → List α → Assn) (vs : List V) (x : List α) : Assn := .xs fun v : V => .xs fun cs : List V => .an (.pu (vs = [v])) (.an (rowA k v cs) (A cs x))
theorem Pers.slE {α : Type} {k : Nat} {A : List V → List α → Assn} (hA : ∀ l m, Pers (A l m)) (vs : List V) (x : List α) : Pers (Am.slE k A vs x) := Pers.xs fun _ => Pers.xs fun _ => Pers.an (Pers.pu _) (Pers.an (Pers.rowA _ _ _) (hA _ _))
theorem Opn.nilS {W : World} {α : Type} {k : Nat} {A : List V → List α → Assn} {φ : List α → Prop} (hnil : ∀ m r, (A [] []).p m r) (hφ : φ []) : Opn W [.slice none 0 0] (slE k A) φ := fun c σ S h =>
 ⟨c, σ, [.sl0], [], h.sat fun h s => (s.addPu (φ := True) trivial).ent fun m r _ => ⟨.sl0, [], rfl, ⟨none, .inl rfl, rfl⟩, hnil m r⟩, Ext.refl c, by simp [conc], fun v hv => by rw [List.mem_singleton.1 hv]; exact ⟨trivial, rfl⟩, hφ⟩
theorem Opn.emptyS {W : World} {α : Type} {k : Nat} {A : List V → List α → Assn} {φ : List α → Prop} {a : Addr} (hnil : ∀ m r, (A [] []).p m r) (hφ : φ []) : Opn W [.slice (some a) 0 0] (slE k A) φ := fun c σ S h =>
 ⟨c, σ, [.sle a], [], h.sat fun h s => (s.addPu (φ := True) trivial).ent fun m r _ => ⟨.sle a, [], rfl, ⟨none, .inr ⟨a, rfl⟩, rfl⟩, hnil m r⟩, Ext.refl c, by simp [conc], fun v hv => by rw [List.mem_singleton.1 hv]; exact ⟨trivial, rfl⟩, hφ⟩
theorem Opn.rowS {W : World} {α : Type} {k b off len cap : Nat} {A : List V → List α → Assn} {φ : List α → Prop} {cs : List Value} {C : Array Value} {e : TypeId} {fz : Nat × Nat} (hb : W.heap[b]? = some (.cells C e fz)) (hl : off + cs.length ≤ C.size) (hn : cs.length = len * k) (hcap : len ≤ cap)
  (hc : ∀ j v, cs[j]? = some v → C[off + j]? = some v) (hA : ∀ l m, Pers (A l m)) (ho : Opn W cs A φ) : Opn W [.slice (some ⟨b, off, none⟩) len cap] (slE k A) φ := by
 intro c σ S h
 obtain ⟨c1, σ1, vs, x, h1, e1, m1, w1, p1⟩ := ho c σ S h
 have hlen : vs.length = cs.length := by rw [← m1, List.length_map]
 obtain ⟨g1, g2, g3, g4, g5⟩ := h1.1.fix h1.2.1 hb (cs := vs) (off := off) (by omega) (fun j v hv => hc j _ (by rw [← m1, List.getElem?_map, hv]; rfl)) w1
 refine ⟨_, _, [.sl σ1.next 0 len (.exact cap)], x, ⟨g1, g2, ?_⟩, e1.trans g3, ?_, fun v hv => ?_, p1⟩
 ·have s1 : Sat (σ1.new (.cells vs.length vs true)) (.ro σ1.next (.cells vs.length vs true) :: A vs x :: S) := (h1.2.2.new _).freeze
  refine s1.two (Pers.ro _ _) (hA _ _) fun m r k1 k2 => ⟨_, vs, rfl, ⟨some (σ1.next, len, cap), k1, rfl, by rw [hlen, hn]⟩, k2⟩
 ·simp [conc, g4]
 ·rw [List.mem_singleton.1 hv]
  exact ⟨⟨g5, hcap⟩, rfl⟩
def byE (vs : List V) (l : List Nat) : Assn := .xs fun v : V => .an (.pu (vs = [v])) (.rob v l)
theorem Pers.byE (vs : List V) (l : List Nat) : Pers (Am.byE vs l) := Pers.xs fun _ => Pers.an (Pers.pu _) (Pers.rob _ _)
theorem cell_inv {W : World} {a : Addr} {v : Value} (h : W.cell? a = some v) : ∃ b off, a = ⟨b, off, none⟩ ∧ ∃ C e fz, W.heap[b]? = some (.cells C e fz) ∧ C[off]? = some v := by
 obtain ⟨b, off, spot⟩ := a
 have hs : spot = none := World.cell?_spot h
 subst hs
 refine ⟨b, off, rfl, ?_⟩
 unfold World.cell? at h
 split at h
 ·rename_i C e fz hb
  exact ⟨C, e, fz, hb, by simpa using h⟩
 ·cases h
end Go.Proofs.YtconhghphklfjaaGreat.Am
namespace Go.Proofs.YtconhghphklfjaaGreat.Am
open Go Go.ChangeShapes Go.WideShapes Go.ChangeAt Go.RowKit
theorem bulk_pos {H : Type} (d : DataW H) : 1 ≤ Rows.uptoBulk d := by
 cases d with
 | lit l => cases l <;> simp [Rows.uptoBulk]
 | nil => simp [Rows.uptoBulk]
 | ptr d => simp [Rows.uptoBulk]
 | slice elems spare => simp [Rows.uptoBulk]
 | agg parts => simp [Rows.uptoBulk]
 | iface t d => simp [Rows.uptoBulk]
 | map entries => simp [Rows.uptoBulk]
 | held h => simp [Rows.uptoBulk]
theorem bulk_part {H : Type} {d : DataW H} : ∀ {l : List (DataW H)}, d ∈ l → Rows.uptoBulk d ≤ Rows.uptoBulkAll l := by
 intro l
 induction l with
 | nil => intro h; cases h
 | cons x r ih =>
  intro h
  simp only [Rows.uptoBulkAll]
  rcases List.mem_cons.1 h with e | e
  ·subst e; omega
  ·have := ih e; omega
theorem bulk_len {H : Type} : ∀ (l : List (DataW H)), l.length ≤ Rows.uptoBulkAll l := by
 intro l
 induction l with
 | nil => exact Nat.zero_le _
 | cons x r ih => have := bulk_pos x; simp only [Rows.uptoBulkAll, List.length_cons]; omega
theorem bulk_slice {H : Type} (a b : List (DataW H)) : Rows.uptoBulk (.slice a b) = Rows.uptoBulkAll a + Rows.uptoBulkAll b + 1 := by simp only [Rows.uptoBulk]
theorem bulk_agg {H : Type} (a : List (DataW H)) : Rows.uptoBulk (.agg a) = Rows.uptoBulkAll a + 1 := by simp only [Rows.uptoBulk]
theorem cell_at {W : World} {b o : Nat} {C : Array Value} {e : TypeId} {fz : Nat × Nat} (hb : W.heap[b]? = some (.cells C e fz)) : W.cell? ⟨b, o, none⟩ = C[o]? := by
 unfold World.cell?
 simp only [hb]
 rfl
section
variable {H' : Type} {enc : TypeId × Value → H'} {W : World} {fuel B : Nat} {cs : List Value} {x : DataW H' × List MemPlace}
theorem open_by (h : DataW.trod enc Tryz.prog W 0 (fun _ => true) true fuel 32 cs = some x) (hB : Rows.uptoBulk x.1 ≤ B) : Opn W cs byE (fun l => l.length ≤ B) := by
 rcases open_ints Tryz.underlying32 Tryz.underlying5 (by kernel_rfl) h with ⟨rfl, rfl⟩ | ⟨a, len, cap, zs, rfl, _, hlc, _, hz, rfl, hcell, hwf⟩
 ·exact fun c σ S h => ⟨c, σ, [.sl0], [], h.sat fun h s => s.nilRo.ent fun m r k => ⟨.sl0, rfl, k⟩, Ext.refl c, by simp [conc], fun v hv => by rw [List.mem_singleton.1 hv]; exact ⟨trivial, rfl⟩, Nat.zero_le _⟩
 ·rw [if_pos rfl] at hz
  by_cases h0 : cap = 0
  ·have : len = 0 := by omega
   subst this
   subst h0
   exact fun c σ S h => ⟨c, σ, [.sle a], [], h.sat fun h s => (s.addPu (φ := True) trivial).ent fun m r k => ⟨.sle a, rfl, by simp, .inl ⟨.inr ⟨a, rfl⟩, rfl⟩⟩, Ext.refl c, by simp [conc], fun v hv => by rw [List.mem_singleton.1 hv]; exact ⟨trivial, rfl⟩, Nat.zero_le _⟩
  ·have g0 := hcell 0 (by omega)
   obtain ⟨b, off, spot⟩ := a
   have hs : spot = none := by simpa [Addr.add] using World.cell?_spot g0
   subst hs
   have hcell : ∀ i, i < zs.length → W.cell? ⟨b, off + i, none⟩ = some (.int .u8 (zs.getD i 0)) := fun i hi => by have := hcell i hi; rwa [add_plain] at this
   obtain ⟨b', off', he, C, e, fz, hb, hc0⟩ := cell_inv (hcell 0 (by omega))
   simp only [Addr.mk.injEq, and_true] at he
   obtain ⟨rfl, rfl⟩ := he
   have hC : ∀ i, i < zs.length → C[off + i]? = some (.int .u8 (zs.getD i 0)) := fun i hi => by rw [← cell_at hb]; exact hcell i hi
   have hoff : off < C.size := by
    have := (Array.getElem?_eq_some_iff.1 hc0).1
    omega
   have hu8 : ∀ z ∈ zs, 0 ≤ z ∧ z < 256 := fun z hz => by
    have := hwf z hz
    simp only [Lit.wf, Bool.and_eq_true, decide_eq_true_eq] at this
    have e1 : IntKind.min .u8 = 0 := rfl
    have e2 : IntKind.max .u8 = 255 := rfl
    omega
   have hll : ((zs.take len).map Int.toNat).length = len := by rw [List.length_map, List.length_take]; omega
   have hob : (ofBytes ((zs.take len).map Int.toNat)).length = len := by rw [ofBytes_len, hll]
   have h256 : ∀ y ∈ (zs.take len).map Int.toNat, y < 256 := fun y hy => by
    obtain ⟨z, hz1, rfl⟩ := List.mem_map.1 hy
    have := hu8 z (List.mem_of_mem_take hz1)
    omega
   intro c σ S h
   have hfit : off + (ofBytes ((zs.take len).map Int.toNat)).length ≤ C.size := by
    rw [hob]
    by_cases hl0 : len = 0
    ·omega
    ·have := (Array.getElem?_eq_some_iff.1 (hC (len - 1) (by omega))).1
     omega
   have hrep : ∀ j v, (ofBytes ((zs.take len).map Int.toNat))[j]? = some v → C[off + j]? = some (conc c v) := fun j v hv => by
    have hj := (List.getElem?_eq_some_iff.1 hv).1
    rw [hob] at hj
    rw [hC j (by omega)]
    simp only [ofBytes, List.map_map, List.getElem?_map, List.getElem?_take, if_pos hj] at hv
    have hz2 : zs[j]? = some (zs[j]'(by omega)) := List.getElem?_eq_getElem _
    rw [hz2] at hv
    have hv := Option.some.inj hv
    subst hv
    have hb := hu8 (zs[j]'(by omega)) (List.getElem_mem _)
    have hd : zs.getD j 0 = zs[j]'(by omega) := by rw [List.getD_eq_getElem?_getD, hz2]; rfl
    rw [hd]
    simp only [Function.comp, conc]
    congr 2
    omega
   obtain ⟨g1, g2, g3, g4, g5⟩ := h.1.fix h.2.1 hb (off := off) hfit hrep (fun v hv => by obtain ⟨n, _, rfl⟩ := List.mem_map.1 hv; exact ⟨trivial, rfl⟩)
   refine ⟨_, _, [.sl σ.next 0 len (.exact cap)], (zs.take len).map Int.toNat, ⟨g1, g2, ?_⟩, g3, ?_, fun v hv => ?_, ?_⟩
   ·have s1 := (h.2.2.new (.cells (ofBytes ((zs.take len).map Int.toNat)).length (ofBytes ((zs.take len).map Int.toNat)) true)).freeze
    refine s1.ent fun m r k => ⟨_, rfl, h256, .inr ⟨σ.next, 0, .exact cap, _, _, true, by rw [hll], k, rfl, by rw [hob, hll]; omega, ?_, ?_⟩⟩
    ·rw [List.drop_zero]; exact List.take_of_length_le (by rw [hob, hll]; exact Nat.le_refl _)
    ·show _ ≤ cap; rw [hll]; exact hlc
   ·simp [conc, g4]
   ·rw [List.mem_singleton.1 hv]
    exact ⟨⟨g5, hlc⟩, rfl⟩
   ·rw [bulk_slice] at hB
    have h1 := bulk_len (lits (H := H') .u8 (zs.take len))
    have h2 : (lits (H := H') .u8 (zs.take len)).length = len := by simp [lits]; omega
    rw [hll]; omega
theorem open_rows {α : Type} {t e : TypeId} {k : Nat} {E : List V → α → Assn} {A : List V → List α → Assn} {φ : α → Prop} (ht : Tryz.prog.underlying t = some (.slice e)) (hk : Tryz.prog.cellsOf e = k) (h1 : 1 ≤ k)
  (hE : ∀ vs x, Pers (E vs x)) (hA : ∀ l m, Pers (A l m)) (hnil : ∀ m r, (A [] []).p m r) (hcons : ∀ vs x l m a b, (E vs x).p a b → (A l m).p a b → (A (vs ++ l) (x :: m)).p a b)
  (hel : ∀ n cs (y : DataW H' × List MemPlace), DataW.trod enc Tryz.prog W 0 (fun _ => true) true n e cs = some y → Rows.uptoBulk y.1 ≤ B → Opn W cs E φ)
  (h : DataW.trod enc Tryz.prog W 0 (fun _ => true) true fuel t cs = some x) (hB : Rows.uptoBulk x.1 ≤ B) : Opn W cs (slE k A) (fun xs => xs.length ≤ B ∧ ∀ x ∈ xs, φ x) := by
 rcases DataW.trod_slice ht h with ⟨rfl, rfl⟩ | ⟨a, len, cap, elems, rest, n, _, rfl, rfl, _, hlc, _, hlen, hels, hsp, _⟩
 ·exact Opn.nilS hnil ⟨Nat.zero_le _, fun x hx => (by cases hx)⟩
 ·obtain ⟨hrl, hrest⟩ := hsp rfl
  rw [hk] at hels hrest
  rw [bulk_slice] at hB
  by_cases h0 : cap = 0
  ·have : len = 0 := by omega
   subst this
   subst h0
   exact Opn.emptyS hnil ⟨Nat.zero_le _, fun x hx => (by cases hx)⟩
  ·-- each element's cells
   have each : ∀ i, i < cap → ∃ cs, W.cells? 0 (a.add (i * k)) k = some cs := fun i hi => by
    by_cases hil : i < len
    ·have h2 := hels i hil
     rw [List.getElem?_eq_getElem (by omega)] at h2
     obtain ⟨cs, h3, _⟩ := Option.bind_eq_some_iff.1 h2
     exact ⟨cs, h3⟩
    ·have h2 := hrest (i - len) (by omega)
     rw [List.getElem?_eq_getElem (by omega), show len + (i - len) = i by omega] at h2
     obtain ⟨cs, h3, _⟩ := Option.bind_eq_some_iff.1 h2
     exact ⟨cs, h3⟩
   obtain ⟨cs0, hcs0⟩ := each 0 (by omega)
   obtain ⟨_, hl0, hc0⟩ := World.cells?_some hcs0
   have g0 := hc0 0 (by omega)
   obtain ⟨v0, hv0⟩ : ∃ v, cs0[0]? = some v := ⟨_, List.getElem?_eq_getElem (by omega)⟩
   rw [hv0] at g0
   obtain ⟨b, off, spot⟩ := a
   have hs : spot = none := by simpa [Addr.add] using World.cell?_spot g0
   subst hs
   simp only [add_plain, Nat.zero_mul, Nat.add_zero] at g0
   obtain ⟨b', off', he, C, ty, fz, hb, hc1⟩ := cell_inv g0
   simp only [Addr.mk.injEq, and_true] at he
   obtain ⟨rfl, rfl⟩ := he
   have hoff : off < C.size := (Array.getElem?_eq_some_iff.1 hc1).1
   -- the rows
   have rows : ∀ i, i < len → ∃ cs, cs.length = k ∧ Opn W cs E φ ∧ ∀ q v, cs[q]? = some v → C[off + i * k + q]? = some v := fun i hi => by
    have h2 := hels i hi
    rw [List.getElem?_eq_getElem (by omega)] at h2
    obtain ⟨cs, h3, h4⟩ := Option.bind_eq_some_iff.1 h2
    obtain ⟨_, hl, hc⟩ := World.cells?_some h3
    refine ⟨cs, hl, hel n cs _ h4 ?_, fun q v hq => ?_⟩
    ·have := bulk_part (l := elems.map (·.1)) (List.mem_map_of_mem (List.getElem_mem (l := elems) (n := i) (by omega)))
     omega
    ·have hqk : q < k := by rw [← hl]; exact (List.getElem?_eq_some_iff.1 hq).1
     have := hc q hqk
     rw [add_plain, add_plain, cell_at hb, hq] at this
     exact this
   have build : ∀ m, m ≤ len → ∃ css : List (List Value), css.length = m ∧ (∀ cs ∈ css, Opn W cs E φ) ∧ css.flatten.length = m * k ∧ ∀ j v, css.flatten[j]? = some v → C[off + j]? = some v := by
    intro m
    induction m with
    | zero => intro _; exact ⟨[], rfl, fun cs h => (by cases h), by simp, fun j v h => by simp at h⟩
    | succ m ih =>
     intro hm
     obtain ⟨css, i1, i2, i3, i4⟩ := ih (by omega)
     obtain ⟨cs, r1, r2, r3⟩ := rows m (by omega)
     refine ⟨css ++ [cs], by simp [i1], fun y hy => ?_, by simp [i3, r1, Nat.add_mul], fun j v hj => ?_⟩
     ·rcases List.mem_append.1 hy with hy | hy
      ·exact i2 y hy
      ·rw [List.mem_singleton.1 hy]; exact r2
     ·rw [List.flatten_append, List.flatten_singleton] at hj
      by_cases hlt : j < m * k
      ·rw [List.getElem?_append_left (by rw [i3]; exact hlt)] at hj
       exact i4 j v hj
      ·rw [List.getElem?_append_right (by rw [i3]; omega), i3] at hj
       have := r3 _ v hj
       rwa [show off + m * k + (j - m * k) = off + j by omega] at this
   obtain ⟨css, b1, b2, b3, b4⟩ := build len (Nat.le_refl _)
   have hfit : off + css.flatten.length ≤ C.size := by
    rw [b3]
    by_cases hl0 : len * k = 0
    ·omega
    ·obtain ⟨v, hv⟩ : ∃ v, css.flatten[len * k - 1]? = some v := ⟨_, List.getElem?_eq_getElem (by rw [b3]; omega)⟩
     have := (Array.getElem?_eq_some_iff.1 (b4 _ v hv)).1
     omega
   have main := Opn.rowS (k := k) (len := len) (cap := cap) hb hfit b3 hlc b4 hA (Opn.rows hE hA hnil hcons css b2)
   intro c σ S h
   obtain ⟨c1, σ1, vs, x, q1, q2, q3, q4, q5, q6⟩ := main c σ S h
   refine ⟨c1, σ1, vs, x, q1, q2, q3, q4, ?_, q6⟩
   have := bulk_len (elems.map (·.1))
   rw [List.length_map] at this
   omega
end
end Go.Proofs.YtconhghphklfjaaGreat.Am
