/- A group that is over or open, pages that are none and records that may not be are refused, and a record that was done is read back; the conditions are those of the given statement, for arguments that a machine can hold. Part 35 of 44. -/
import Derived.Test.YtconhghphklfjaaGreatE34
namespace Go.Proofs.YtconhghphklfjaaGreat.Am
open Go
inductive RgR (page : Int) (was now : List Nat) : Nat → List Chg → Prop where
 | done (i : Nat) (h : now.length ≤ i) : RgR page was now i []
 | skip (i : Nat) (l : List Chg) (h : i < now.length) (he : was[i]? = now[i]?) (hr : RgR page was now (i + 1) l) : RgR page was now i l
 | take (i e : Nat) (l : List Chg) (h1 : i < e) (h2 : e ≤ now.length) (hr : RgR page was now e l) : RgR page was now i (⟨page, i, false, (now.take e).drop i⟩ :: l)
def RgF (page : Int) (was now : List Nat) (c : List Chg) : Prop := ∃ l, RgR page was now 12 l ∧ c = if l = [] then [⟨page, 0, false, []⟩] else l
theorem info_chg : ∃ i, Tryz.prog.info? 54 = some i ∧ i.size = 4 ∧ i.bytes = 48 :=
 ⟨_, (show Tryz.prog.info? 54 = some ((Tryz.prog.info? 54).getD default) by kernel_rfl), by kernel_rfl, by kernel_rfl⟩
section
variable {told : Nat → Option (List V → H → Option (V × H))} {h : H} {S : List Assn} {X Y : Assn} {r k q p fid a g chk : Nat} {op v x u wh di : V} {l b was now : List Nat}
noncomputable def rgO : Code := pathC [1, 1, 0, 1, 0, 0] ((Tryz.f87.body).getD .skip)
noncomputable def rgI : Code := pathC [1, 1, 0, 1, 0, 0, 1, 0, 1, 1, 0, 1, 0, 0] ((Tryz.f87.body).getD .skip)
theorem rg_inner {pg : Int} {at0 : Nat} {t7 : V} {k1 k2 : Nat} (s : Sat h S) (hk1 : getA S k1 = some X) (hX : Ent X (rdB u was)) (hk2 : getA S k2 = some Y) (hY : Ent Y (rdB v now)) (hl1 : was.length = 512) (hl2 : now.length = 512) : ∀ (j i e : Nat) (E : List (Nat × V)) (Q : Ex → List (Nat × V) → H → Prop), i + j = 512 → at0 < e → e ≤ i →
  Has E [(0, .int .i64 pg), (1, u), (2, v), (7, t7), (8, .int .i64 (at0 : Int)), (9, .int .i64 (e : Int)), (10, .int .i64 (i : Int))] →
  (∀ e' E', at0 < e' → e' ≤ 512 → Has E' [(0, .int .i64 pg), (1, u), (2, v), (7, t7), (8, .int .i64 (at0 : Int)), (9, .int .i64 (e' : Int))] → Q (.exit 2) E' h) →
  WP ⟨Tryz.prog, told⟩ 71 (.loop rgI) E h Q := by
 have hv := s.viewX hk2 hY
 have hu := s.viewX hk1 hX
 have hlen : lenV Tryz.prog h 32 v = some (.int .i64 now.length) := len_view Tryz.underlying32 hv
 intro j
 induction j with
 | zero =>
  intro i e E Q hi h1 h2 hE hq
  refine WP.loop (WP.has hE (zw (zg rfl (zm rfl (zm rfl (zo rfl (o_len rfl rfl rfl hlen) (WPs.opF rfl rfl rfl (o_bin rfl rfl bLss) (by simp <;> omega) ?_)))))))
  refine zm rfl (zx rfl (zx rfl (zx rfl (zx rfl (zp rfl (zv (zj rfl (WP.exit ?_))))))))
  exact hq e _ h1 (by omega) ⟨rfl, rfl, rfl, rfl, rfl, rfl, trivial⟩
 | succ j ih =>
  intro i e E Q hi h1 h2 hE hq
  have hb : now[i]? = some (now[i]'(by omega)) := List.getElem?_eq_getElem _
  generalize (now[i]'(by omega)) = b at hb
  have hc : was[i]? = some (was[i]'(by omega)) := List.getElem?_eq_getElem _
  generalize (was[i]'(by omega)) = c at hc
  obtain ⟨id, off, e1, e2⟩ := index_view hv hb
  obtain ⟨id', off', e3, e4⟩ := index_view hu hc
  refine WP.loop (WP.has hE (zw (zg rfl (zm rfl (zm rfl (zo rfl (o_len rfl rfl rfl hlen) (WPs.opT rfl rfl rfl (o_bin rfl rfl bLss) (by simp <;> omega) ?_)))))))
  refine zm rfl (zm rfl (zm rfl (zb rfl (by exact bAdd (wrapS (by omega) (by omega))) ?_)))
  by_cases hd : i < e + 8
  ·skip
   refine WPs.opT rfl rfl rfl (o_bin rfl rfl bLss) (by simp <;> omega) ?_
   refine zq rfl (zv (zi rfl (WP.skip (zw (WP.block (zw ?_))))))
   have s0 := s
   refine WP.drawn [none, none, none, none, none, none, none, none, none] rfl (by kernel_rfl) (by kernel_rfl) ?_
   refine zM rfl (zM rfl (zO rfl (o_ia (r := .ptr id' off') rfl rfl e3) (zL rfl e4 (zM rfl (zM rfl (zO rfl (o_ia (r := .ptr id off) rfl rfl e1) (zL rfl e2 ?_)))))))
   by_cases hbc : c = b
   ·skip
    refine WPt.opF rfl rfl rfl rfl (o_bin rfl rfl bNeq) (by simp; exact_mod_cast hbc) ?_
    refine WPt.nil ⟨⟨trivial, trivial, trivial, trivial, trivial, trivial, trivial, trivial, trivial, trivial⟩, ?_⟩
    refine zj rfl (WP.skip (zr rfl (zm rfl (zb rfl (by exact bAdd (wrapS (by omega) (by omega))) ?_))))
    refine za rfl (zv ?_)
    exact ih (i + 1) e _ Q (by omega) h1 (by omega) ⟨rfl, rfl, rfl, rfl, rfl, rfl, rfl, trivial⟩ hq
   ·skip
    refine WPt.opT rfl rfl rfl rfl (o_bin rfl rfl bNeq) (by simp; omega) ?_
    refine WPt.nil ⟨⟨trivial, trivial, trivial, trivial, trivial, trivial, trivial, trivial, trivial, trivial⟩, ?_⟩
    refine zi rfl (zr rfl (zm rfl (zb rfl (by exact bAdd (wrapS (by omega) (by omega))) ?_)))
    refine za rfl (zv (zr rfl (zm rfl (zb rfl (by exact bAdd (wrapS (by omega) (by omega))) ?_))))
    refine za rfl (zv ?_)
    exact ih (i + 1) (i + 1) _ Q (by omega) (by omega) (by omega) ⟨rfl, rfl, rfl, rfl, rfl, rfl, rfl, trivial⟩ hq
  ·skip
   refine WPs.opF rfl rfl rfl (o_bin rfl rfl bLss) (by simp <;> omega) ?_
   refine zq rfl (zv (zj rfl (WP.exit ?_)))
   exact hq e _ h1 (by omega) ⟨rfl, rfl, rfl, rfl, rfl, rfl, trivial⟩
theorem rg_outer (hT : W told) {pg : Int} (hX : Ent X (rdB u was)) (hY : Ent Y (rdB v now)) (hl1 : was.length = 512) (hl2 : now.length = 512) : ∀ (j i : Nat) (acc : List Chg) (av : V) (cs : List V) (h : H) (E : List (Nat × V)) (Q : Ex → List (Nat × V) → H → Prop), 512 ≤ i + j → i ≤ 512 → acc.length ≤ i →
  Sat h (.arr 4 av cs :: chgA cs acc :: X :: Y :: S) → (∀ l, RgR pg was now i l → RgR pg was now 12 (acc ++ l)) →
  Has E [(0, .int .i64 pg), (1, u), (2, v), (7, av), (8, .int .i64 (i : Int))] →
  (∀ av' cs' l E' h', RgR pg was now 12 l → l.length ≤ 512 → Sat h' (.arr 4 av' cs' :: chgA cs' l :: X :: Y :: S) → Has E' [(0, .int .i64 pg), (7, av')] → Q (.exit 0) E' h') →
  WP ⟨Tryz.prog, told⟩ 71 (.loop rgO) E h Q := by
 intro j
 induction j with
 | zero =>
  intro i acc av cs h E Q hj hi hac s hacc hE hq
  have hlen : lenV Tryz.prog h 32 v = some (.int .i64 now.length) := len_view Tryz.underlying32 (s.viewX (k := 3) rfl hY)
  refine WP.loop (WP.has hE (zw (zg rfl (zm rfl (zm rfl (zo rfl (o_len rfl rfl rfl hlen) (WPs.opF rfl rfl rfl (o_bin rfl rfl bLss) (by simp <;> omega) ?_)))))))
  refine zv (zj rfl (WP.exit ?_))
  have := hacc [] (.done _ (by omega))
  rw [List.append_nil] at this
  exact hq av cs acc _ _ this (by omega) s ⟨rfl, rfl, trivial⟩
 | succ j ih =>
  intro i acc av cs h E Q hj hi hac s hacc hE hq
  have hv := s.viewX (k := 3) rfl hY
  have hu := s.viewX (k := 2) rfl hX
  have hlen : lenV Tryz.prog h 32 v = some (.int .i64 now.length) := len_view Tryz.underlying32 hv
  by_cases hlt : i < 512
  ·have hb : now[i]? = some (now[i]'(by omega)) := List.getElem?_eq_getElem _
   generalize (now[i]'(by omega)) = b at hb
   have hc : was[i]? = some (was[i]'(by omega)) := List.getElem?_eq_getElem _
   generalize (was[i]'(by omega)) = c at hc
   obtain ⟨id, off, e1, e2⟩ := index_view hv hb
   obtain ⟨id', off', e3, e4⟩ := index_view hu hc
   refine WP.loop (WP.has hE (zw (zg rfl (zm rfl (zm rfl (zo rfl (o_len rfl rfl rfl hlen) (WPs.opT rfl rfl rfl (o_bin rfl rfl bLss) (by simp <;> omega) ?_)))))))
   refine zv (zi rfl (WP.skip (WP.block (zw (zw ?_)))))
   have s0 := s
   refine WP.drawn [none, none, none, none, none, none, none, none, none] rfl (by kernel_rfl) (by kernel_rfl) ?_
   refine zM rfl (zM rfl (zO rfl (o_ia (r := .ptr id' off') rfl rfl e3) (zL rfl e4 (zM rfl (zM rfl (zO rfl (o_ia (r := .ptr id off) rfl rfl e1) (zL rfl e2 ?_)))))))
   by_cases hbc : c = b
   ·skip
    refine WPt.opT rfl rfl rfl rfl (o_bin rfl rfl bEql) (by simp; exact_mod_cast hbc) ?_
    refine WPt.nil ⟨⟨trivial, trivial, trivial, trivial, trivial, trivial, trivial, trivial, trivial, trivial⟩, ?_⟩
    refine zi rfl (zg rfl (zm rfl (zb rfl (by exact bAdd (wrapS (by omega) (by omega))) ?_)))
    refine za rfl (zv (WP.exit ?_))
    exact ih (i + 1) acc av cs h _ Q (by omega) (by omega) (by omega) s (fun l hl => hacc l (.skip i l (by omega) (by rw [hb, hc, hbc]) hl)) ⟨rfl, rfl, rfl, rfl, rfl, trivial⟩ hq
   ·skip
    refine WPt.opF rfl rfl rfl rfl (o_bin rfl rfl bEql) (by simp; omega) ?_
    refine WPt.nil ⟨⟨trivial, trivial, trivial, trivial, trivial, trivial, trivial, trivial, trivial, trivial⟩, ?_⟩
    refine zj rfl (WP.skip (zg rfl (zm rfl (zb rfl (by exact bAdd (wrapS (by omega) (by omega))) ?_))))
    refine za rfl (zv (zw (zg rfl (zm rfl (za rfl (zv (WP.block ?_)))))))
    refine rg_inner s (k1 := 2) (k2 := 3) rfl hX rfl hY hl1 hl2 (512 - (i + 1)) (i + 1) (i + 1) _ _ (by omega) (Nat.lt_succ_self i) (Nat.le_refl _) ⟨rfl, rfl, rfl, rfl, rfl, rfl, rfl, trivial⟩ (fun e' E' he1 he2 hE' => ?_)
    refine WP.has hE' ?_
    have hsv := slice_view hv (a := i) (b := e') (by omega) (by omega)
    refine zg rfl (zm rfl (zm rfl (zm rfl (zm rfl (zm rfl (zm rfl (zo rfl (o_slice (p := some (.int .i64 (i : Int))) (q := some (.int .i64 (e' : Int))) (m := none) (p' := some i) (q' := some e') (m' := none) rfl rfl rfl rfl (by rw [bnd_ok (by omega)]; rfl) (by rw [bnd_ok (by omega)]; rfl) rfl hsv.1) ?_)))))))
    refine WPs.call rfl rfl rfl rfl rfl rfl rfl (clone_atom hT (s.bringS [3]) (rd_slice hY (a := i) (b := e') (by omega) (by omega)) (by simp; omega)) ?_
    intro w h s
    dsimp only [bringA, getA, delA] at s
    obtain ⟨wid, _, wcap, _, rfl, _⟩ := s.openBuf (by simp; omega)
    have s := s.freezeBuf
    generalize hbs : (now.take e').drop i = bs at s
    refine zo rfl (o_build rfl (by rw [bv54]; rfl)) ?_
    obtain ⟨rv, h1, e1', s1⟩ := sat_bs1 (P := Tryz.prog) (k := 4) (x := .agg [.int .i64 pg, .int .i64 (i : Int), .bool false, .sl wid 0 bs.length wcap]) s Tryz.underlying38 zt54 sz54 rfl (by decide) (by decide) rfl rfl
    dsimp only [V.cells] at s1
    refine WPs.any rfl rfl rfl (OpR.of (R := fun v h' => v = rv ∧ h' = h1) (o_bs rfl e1') ⟨rfl, rfl⟩) ?_
    rintro v' h' ⟨rfl, rfl⟩
    obtain ⟨i1, hi1, hi2, hi3⟩ := info_chg
    have hcl : cs.length = acc.length * 4 := by
     obtain ⟨a, b, q1, q2, q3⟩ := s1.at (k := 4) rfl
     exact chgA_len q3
    obtain ⟨av', h2, e2', s2⟩ := sat_appArr (s1.bringS [3, 0]) Tryz.underlying38 hi1 zt54 hi2 (by omega) rfl (by decide) (by simp only [List.length_cons, List.length_nil]; omega)
    dsimp only [bringA, getA, delA] at s2
    refine WPs.any rfl rfl rfl (OpR.of (R := fun v h' => v = av' ∧ h' = h2) (o_app rfl rfl e2') ⟨rfl, rfl⟩) ?_
    rintro v' h' ⟨rfl, rfl⟩
    refine za rfl (zv (zr rfl (zm rfl (za rfl (zv ?_)))))
    have s3 : Sat _ (chgA cs acc :: .rob (.sl wid 0 bs.length wcap) bs :: _) := s2.bringS [4, 2]
    have s4 := s3.two (C := chgA (cs ++ [.int .i64 pg, .int .i64 (i : Int), .bool false, .sl wid 0 bs.length wcap]) (acc ++ [⟨pg, i, false, bs⟩])) (Pers.chg _ _) (Pers.rob _ _) fun a b q1 q2 => chgA_app q1 ⟨⟨⟨rfl, rfl, rfl⟩, q2⟩, trivial⟩
    dsimp only [bringA, getA, delA] at s4
    have s5 := (s4.bringS [1, 0, 2, 1]).del 4
    dsimp only [bringA, getA, delA] at s5
    refine ih e' (acc ++ [⟨pg, (i : Int), false, bs⟩]) _ _ _ _ Q (by omega) he2 (by simp; omega) s5 (fun l hl => ?_) ⟨rfl, rfl, rfl, rfl, rfl, trivial⟩ hq
    have := hacc _ (.take i e' l he1 (by omega) hl)
    rw [hbs] at this
    rwa [List.append_assoc]
  ·have hi5 : i = 512 := by omega
   refine WP.loop (WP.has hE (zw (zg rfl (zm rfl (zm rfl (zo rfl (o_len rfl rfl rfl hlen) (WPs.opF rfl rfl rfl (o_bin rfl rfl bLss) (by simp <;> omega) ?_)))))))
   refine zv (zj rfl (WP.exit ?_))
   have := hacc [] (.done _ (by omega))
   rw [List.append_nil] at this
   exact hq av cs acc _ _ this (by omega) s ⟨rfl, rfl, trivial⟩
theorem ranges_ct (hT : W told) {pg : Int} (s : Sat h (X :: Y :: S)) (hX : Ent X (rdB u was)) (hY : Ent Y (rdB v now)) (hl1 : was.length = 512) (hl2 : now.length = 512) :
  Call ⟨Tryz.prog, told⟩ 87 [.int .i64 pg, u, v] h fun w h' => ∃ cs l, RgF pg was now l ∧ l.length ≤ 512 ∧ Sat h' (.arr 4 w cs :: chgA cs l :: X :: Y :: S) := by
 refine Call.of_wp (hT.free _ rfl) Tryz.func87 rfl rfl (zg rfl (za rfl (zv (zg rfl (za rfl (zv (zw (zg rfl (za rfl (zv (WP.block ?_)))))))))))
 refine rg_outer hT (pg := pg) hX hY hl1 hl2 500 12 [] .sl0 [] _ _ _ (by omega) (by omega) (by simp) ((s.addPu trivial).nilArr) (fun l hl => hl) ⟨rfl, rfl, rfl, rfl, rfl, trivial⟩ (fun av' cs' l E' h' hr hll s' hE' => ?_)
 have s := s'
 have hlen := s.chgLen (j1 := 0) (j2 := 1) rfl rfl Tryz.underlying38
 have hav := s.arrV (j := 0) rfl
 refine WP.has hE' (zw (zg rfl (zm rfl (zo rfl (o_len rfl rfl rfl hlen) ?_))))
 by_cases hnil : l = []
 ·skip
  refine WPs.opT rfl rfl rfl (o_bin rfl rfl bEql) (by subst hnil; rfl) ?_
  refine zv (zi rfl (zg rfl (zm rfl (zo rfl (o_build rfl (by rw [bv54]; rfl)) ?_))))
  obtain ⟨rv, h1, e1', s1⟩ := sat_bs1 (P := Tryz.prog) (k := 4) (x := .agg [.int .i64 pg, .int .i64 0, .bool false, .sl0]) s Tryz.underlying38 zt54 sz54 rfl (by decide) (by decide) rfl rfl
  dsimp only [V.cells] at s1
  refine WPs.any rfl rfl rfl (OpR.of (R := fun v h' => v = rv ∧ h' = h1) (o_bs rfl e1') ⟨rfl, rfl⟩) ?_
  rintro v' h' ⟨rfl, rfl⟩
  refine za rfl (zv ?_)
  refine WP.ret ⟨trivial, _, rfl, ?_⟩
  refine ⟨[.int .i64 pg, .int .i64 0, .bool false, .sl0], [⟨pg, 0, false, []⟩], ⟨l, hr, by rw [if_pos hnil]⟩, by simp, ?_⟩
  have s2 := (s1.del 2).del 1
  have s3 : Sat _ (.rob .sl0 [] :: .arr 4 v' _ :: X :: Y :: S) := s2.nilRo
  have s4 := s3.ent (B := chgA [.int .i64 pg, .int .i64 0, .bool false, .sl0] [⟨pg, 0, false, []⟩]) fun a b q => ⟨⟨⟨rfl, rfl, rfl⟩, q⟩, trivial⟩
  exact s4.bringS [1, 0]
 ·skip
  refine WPs.opF rfl rfl rfl (o_bin rfl rfl bEql) (by cases l with | nil => exact absurd rfl hnil | cons _ _ => simp; omega) ?_
  refine zv (zj rfl (WP.skip (zg rfl (zm rfl (za rfl (zv ?_))))))
  refine WP.ret ⟨trivial, _, rfl, ?_⟩
  exact ⟨_, l, ⟨l, hr, by rw [if_neg hnil]⟩, hll, s⟩
end
end Go.Proofs.YtconhghphklfjaaGreat.Am
namespace Go.Proofs.YtconhghphklfjaaGreat.Am
open Go
def chCount (m : List Fm) : Nat := (m.map (·.changed)).count true
theorem chCount_set {f g : Fm} : ∀ {m : List Fm} {i : Nat}, m[i]? = some f → chCount (m.set i g) + f.changed.toNat = chCount m + g.changed.toNat := by
 intro m
 induction m with
 | nil => intro i h; simp at h
 | cons x m ih =>
  intro i h
  cases i with
  | zero =>
   simp at h
   subst h
   simp only [chCount, List.set_cons_zero, List.map_cons, List.count_cons]
   cases x.changed <;> cases g.changed <;> simp
  | succ i =>
   rw [List.getElem?_cons_succ] at h
   have := ih h
   simp only [chCount, List.set_cons_succ, List.map_cons, List.count_cons] at this ⊢
   omega
theorem chCount_le {g : Fm} (hg : g.changed = false) : ∀ {m : List Fm} {i : Nat}, chCount (m.set i g) ≤ chCount m := by
 intro m i
 cases h : m[i]? with
 | none =>
  have : m.length ≤ i := by simpa using h
  rw [List.set_eq_of_length_le this]
  exact Nat.le_refl _
 | some f =>
  have := chCount_set (g := g) h
  rw [hg] at this
  simp only [Bool.toNat_false] at this
  omega
def pot (ε : Eng) : Nat := ε.2.2.waiting.length + chCount ε.1.frames
theorem pot_wait {ε : Eng} : ε.2.2.waiting.length ≤ pot ε := Nat.le_add_right _ _
theorem Near.count {π π' : Pl} (hn : Near π π') : chCount π'.frames = chCount π.frames := by
 have : π'.frames.map (·.changed) = π.frames.map (·.changed) := by
  refine List.ext_getElem? fun i => ?_
  rw [List.getElem?_map, List.getElem?_map]
  cases h : π.frames[i]? with
  | none =>
   have h1 : π.frames.length ≤ i := by simpa using h
   have : π'.frames[i]? = none := by simp [hn.len, h1]
   rw [this]
  | some f =>
   obtain ⟨t, ht⟩ := hn.get i f h
   rw [ht]; rfl
 simp only [chCount, this]
theorem writeF_wait0 {δ : Dk} {n : Int} {b : List Nat} (h : (δ.writeF n b).1 ≠ 0) : (δ.writeF n b).2.waiting = δ.waiting := by
 unfold Dk.writeF at h ⊢
 split
 ·rfl
 ·rename_i h1
  rw [if_neg h1] at h
  split
  ·rfl
  ·rename_i h2
   rw [if_neg h2] at h
   split
   ·rfl
   ·rename_i h3
    rw [if_neg h3] at h
    exact absurd rfl h
theorem outF_pot {ε : Eng} {i : Nat} : pot (outF ε i).2 ≤ pot ε := by
 unfold outF
 split
 ·exact Nat.le_refl _
 ·rename_i f hf
  split
  ·exact Nat.le_refl _
  ·rename_i hc
   have hc : f.changed = true := by cases h : f.changed <;> simp [h] at hc ⊢
   split
   ·exact Nat.le_refl _
   ·split
    ·simp only [pot, forceLD_wait]; exact Nat.le_refl _
    ·split
     ·rename_i hw
      simp only [pot, writeF_wait0 hw, forceLD_wait]; exact Nat.le_refl _
     ·have h1 := writeF_wait (δ := (forceLD ε.2 (atL f.b 4 8)).2.2) (n := f.page) (b := f.b)
      rw [forceLD_wait] at h1
      have h2 := chCount_set (g := { f with changed := false }) hf
      simp only [hc, Bool.toNat_true, Bool.toNat_false] at h2
      simp only [pot]
      omega
theorem freed_pot {π : Pl} {i : Nat} {f : Fm} : chCount (freed π i f).frames ≤ chCount π.frames := chCount_le rfl
theorem PinR.pot {ε ε' : Eng} {n e : Int} {b : List Nat} (hr : PinR ε n e b ε') : Am.pot ε' ≤ Am.pot ε := by
 have near : ∀ {π' : Pl}, Near ε.1 π' → ∀ i, Am.pot (outF (π', ε.2) i).2 ≤ Am.pot ε := fun {π'} hn i => by
  have := outF_pot (ε := (π', ε.2)) (i := i)
  refine Nat.le_trans this ?_
  simp only [Am.pot, hn.count]
  exact Nat.le_refl _
 cases hr with
 | arg _ => exact Nat.le_refl _
 | hit i f h1 h2 hl hf =>
  have h2 := chCount_set (g := { f with touch := true, pins := f.pins + 1 }) hf
  simp only [Am.pot] at h2 ⊢
  omega
 | out π' i f h1 h2 hl hn hf hh he => exact near hn i
 | read π' i f h1 h2 hl hn hf hh he hr => exact Nat.le_trans (Nat.add_le_add_left freed_pot _) (near hn i)
 | bad π' i f h1 h2 hl hn hf hh he hr hc => exact Nat.le_trans (Nat.add_le_add_left freed_pot _) (near hn i)
 | load π' i f h1 h2 hl hn hf hh he hr hc => exact Nat.le_trans (Nat.add_le_add_left (Nat.le_trans (chCount_le rfl) freed_pot) _) (near hn i)
theorem unpinF_pot {π : Pl} {n : Int} : chCount (unpinF π n).2.frames = chCount π.frames := by
 unfold unpinF
 split
 ·rfl
 ·split
  ·rfl
  ·rename_i i hi f hf
   have h2 := chCount_set (g := { f with pins := f.pins - 1 }) hf
   simp only at h2 ⊢
   omega
theorem RdR.pot {ε ε' : Eng} {n e : Int} {b : List Nat} (hr : RdR ε n e b ε') : Am.pot ε' ≤ Am.pot ε := by
 cases hr with
 | dead _ => exact Nat.le_refl _
 | pin e b ε' hd hr he => exact hr.pot
 | unpin b ε' hd hr he => have := hr.pot; simp only [Am.pot, unpinF_pot] at this ⊢; exact this
 | read b ε' hd hr he => have := hr.pot; simp only [Am.pot, unpinF_pot] at this ⊢; exact this
theorem GRd.pot {ε ε' : Eng} {now : List (Int × List Nat)} {over : Bool} {n e : Int} {b : List Nat} (hr : GRd ε now over n e b ε') : Am.pot ε' ≤ Am.pot ε := by
 cases hr with
 | arg _ => exact Nat.le_refl _
 | over _ _ _ => exact Nat.le_refl _
 | own _ _ _ _ _ => exact Nat.le_refl _
 | read e b ε' h1 h2 h3 hl hr => exact hr.pot
end Go.Proofs.YtconhghphklfjaaGreat.Am
namespace Go.Proofs.YtconhghphklfjaaGreat.Am
open Go
inductive ChR (now : List (Int × List Nat)) : List Int → Eng → Int → List Chg → Eng → Prop where
 | nil (ε : Eng) : ChR now [] ε 0 [] ε
 | err (n : Int) (l : List Int) (ε : Eng) (e : Int) (b : List Nat) (ε' : Eng) (hr : RdR ε n e b ε') (he : e ≠ 0) : ChR now (n :: l) ε e [] ε'
 | part (n : Int) (l : List Int) (ε : Eng) (was b : List Nat) (ε' : Eng) (c : List Chg) (e : Int) (cs : List Chg) (ε'' : Eng) (hr : RdR ε n 0 was ε') (hb : lookL n now = some b) (hd : (lookL n ε'.1.dirty).isSome = true) (hc : RgF n was b c) (hl : c.length ≤ 512) (ht : ChR now l ε' e cs ε'') : ChR now (n :: l) ε e (c ++ cs) ε''
 | whole (n : Int) (l : List Int) (ε : Eng) (was b : List Nat) (ε' : Eng) (e : Int) (cs : List Chg) (ε'' : Eng) (hr : RdR ε n 0 was ε') (hb : lookL n now = some b) (hd : (lookL n ε'.1.dirty).isSome = false) (ht : ChR now l ε' e cs ε'') : ChR now (n :: l) ε e (⟨n, 0, true, b⟩ :: cs) ε''
theorem ChR.ok3 {now : List (Int × List Nat)} {l : List Int} {ε ε' : Eng} {e : Int} {cs : List Chg} (hr : ChR now l ε e cs ε') (h : EOk3 ε) : EOk3 ε' := by
 induction hr with
 | nil ε => exact h
 | err n l ε e b ε' hr he => exact hr.ok3 h
 | part n l ε was b ε' c e cs ε'' hr hb hd hc hl ht ih => exact ih (hr.ok3 h)
 | whole n l ε was b ε' e cs ε'' hr hb hd ht ih => exact ih (hr.ok3 h)
theorem ChR.pot {now : List (Int × List Nat)} {l : List Int} {ε ε' : Eng} {e : Int} {cs : List Chg} (hr : ChR now l ε e cs ε') : Am.pot ε' ≤ Am.pot ε := by
 induction hr with
 | nil ε => exact Nat.le_refl _
 | err n l ε e b ε' hr he => exact hr.pot
 | part n l ε was b ε' c e cs ε'' hr hb hd hc hl ht ih => exact Nat.le_trans ih hr.pot
 | whole n l ε was b ε' e cs ε'' hr hb hd ht ih => exact Nat.le_trans ih hr.pot
theorem res2 {P : Program} {E : List (Nat × V)} {h : H} {a b : Nat} {v w : V} (h1 : look E a = some v) (h2 : look E b = some w) : resLE P E h [.tmp a, .tmp b] = some (.tup [v, w]) := by simp only [resLE, mapO, resE, h1, h2]
section
variable {told : Nat → Option (List V → H → Option (V × H))} {h : H} {S : List Assn} {X Y : Assn} {r k q p fid a g chk : Nat} {op v x u wh di : V} {l b was data : List Nat} {now : List (Int × List Nat)} {over : Bool} {ε : Eng}
theorem keysD_ct (hT : W told) {id : Nat} (s : Sat h S) : Call ⟨Tryz.prog, told⟩ 51 [.map id] h fun v h' => ∃ b, v = .fn (.func 92) [] [.ptr b 0] ∧ Sat h' (pt b (.cells 1 [.map id] false) :: S) := by
 refine Call.of_wp (hT.free _ rfl) Tryz.func51 rfl rfl (zg rfl ?_)
 refine WPs.newS s rfl rfl rfl (o_box rfl rfl) (fun p1 h s => ?_)
 dsimp only [V.cells, List.length_cons, List.length_nil, Nat.reduceAdd] at s
 refine za rfl (zv (zg rfl (zo rfl (o_mkf rfl rfl) (za rfl (zv ?_)))))
 refine WP.ret ⟨trivial, _, rfl, ?_⟩
 exact ⟨_, rfl, s⟩
theorem writes_ct (hT : W told) (s : Sat h (isGp g a now over :: S)) (hm : now.length ≤ 1048576) (hk : ∀ n ∈ now.map (·.1), (Lit.int .i64 n).wf = true) :
  Call ⟨Tryz.prog, told⟩ 85 [.ptr g 0] h fun v h' => Sat h' (.arr 1 v (intsV (keysS now)) :: isGp g a now over :: S) := by
 obtain ⟨nv, s⟩ := isGp_iff.1 s
 obtain ⟨nid, rfl⟩ := mapV_v s (j := 1) rfl
 refine Call.of_wp (hT.free _ rfl) Tryz.func85 rfl rfl (zg rfl (za rfl (zv (zg rfl (zm rfl (zn rfl (zf rfl (fa88_1 _ _) (zl rfl (by exact s.ld (k := 0) rfl ag86 rfl) ?_))))))))
 refine WPs.call rfl rfl rfl rfl rfl rfl rfl (keysD_ct hT s) ?_
 rintro v h ⟨b, rfl, s⟩
 refine WPs.call rfl rfl rfl rfl rfl rfl rfl (sorted_ct hT (s.bringS [0, 1]) (by decide) hm hk) ?_
 intro kv h s
 dsimp only [bringA, getA, delA] at s
 refine za rfl (zv ?_)
 refine WP.ret ⟨trivial, _, rfl, ?_⟩
 exact (isGp_iff.2 ⟨.map nid, (s.bringS [3, 2, 0]).del 3⟩).bringS [1]
noncomputable def cgL : Code := pathC [1, 1, 0, 1, 0, 0] ((Tryz.f47.body).getD .skip)
theorem changes_loop (hT : W told) {ks : List Int} {kv : V} (hks : ks.length ≤ 65536) (hin : ∀ n ∈ ks, (lookL n now).isSome = true) (hnow : ∀ e ∈ now, e.2.length = 512) : ∀ (j i : Nat) (acc : List Chg) (av : V) (cs : List V) (ε : Eng) (h : H) (E : List (Nat × V)) (Q : Ex → List (Nat × V) → H → Prop), i + j = ks.length →
  EOk3 ε → pot ε ≤ 268435456 → acc.length ≤ 512 * i →
  Sat h (.arr 4 av cs :: chgA cs acc :: isGp g a now over :: isSt a p q r op data chk :: isPl r p q ε.1 :: isLg q p ε.2.1 :: isDk p ε.2.2 :: .arr 1 kv (intsV ks) :: S) →
  Has E [(0, .ptr g 0), (4, av), (13, kv), (14, .int .i64 ks.length), (15, .int .i64 i)] →
  (∀ e c ε' E' h', ChR now (ks.drop i) ε e c ε' → e ≠ 0 → look E' 2 = some .sl0 → look E' 3 = some (.int .i64 e) → Sat h' (isGp g a now over :: isSt a p q r op data chk :: isPl r p q ε'.1 :: isLg q p ε'.2.1 :: isDk p ε'.2.2 :: S) → Q .ret E' h') →
  (∀ c ε' E' h' av' cs', ChR now (ks.drop i) ε 0 c ε' → acc.length + c.length ≤ 512 * ks.length → Has E' [(4, av')] → Sat h' (.arr 4 av' cs' :: chgA cs' (acc ++ c) :: isGp g a now over :: isSt a p q r op data chk :: isPl r p q ε'.1 :: isLg q p ε'.2.1 :: isDk p ε'.2.2 :: S) → Q (.exit 0) E' h') →
  WP ⟨Tryz.prog, told⟩ 65 (.loop cgL) E h Q := by
 intro j
 induction j with
 | zero =>
  intro i acc av cs ε h E Q hj hε hw hac s hE hr hx
  refine WP.loop (WP.has hE (zg rfl (WPs.opF rfl rfl rfl (o_bin rfl rfl bLss) (by simp <;> omega) ?_)))
  refine zv (zw (zj rfl (WP.exit ?_)))
  rw [List.drop_eq_nil_of_le (by omega)] at hx
  have s1 := s.del 7
  dsimp only [delA] at s1
  refine hx [] ε _ _ av cs (.nil ε) (by simp; omega) ⟨rfl, trivial⟩ ?_
  rw [List.append_nil]
  exact s1
 | succ j ih =>
  intro i acc av cs ε h E Q hj hε hw hac s hE hr hx
  have hn : ks[i]? = some (ks[i]'(by omega)) := List.getElem?_eq_getElem _
  have hmem : ks[i]'(by omega) ∈ ks := List.getElem_mem _
  have hdrop : ks.drop i = ks[i]'(by omega) :: ks.drop (i + 1) := List.drop_eq_getElem_cons (by omega)
  generalize (ks[i]'(by omega)) = n at hn hmem hdrop
  have hc : (intsV ks)[i]? = some (.int .i64 n) := by simp [intsV, hn]
  obtain ⟨b, hb⟩ := Option.isSome_iff_exists.1 (hin n hmem)
  have hb512 := hnow _ (lookL_mem hb)
  simp only at hb512
  rw [hdrop] at hr hx
  obtain ⟨id, off, e1, e2⟩ := arr1_at (P := Tryz.prog) s (k := 7) rfl hc Tryz.underlying98 sz3
  refine WP.loop (WP.has hE (zg rfl (WPs.opT rfl rfl rfl (o_bin rfl rfl bLss) (by simp <;> omega) ?_)))
  refine zv (zw (zi rfl (WP.skip (zw (WP.block (zg rfl (zo rfl (o_ia (r := .ptr id off) rfl rfl e1) (zl rfl (e2 _ ag3) ?_))))))))
  obtain ⟨nv, s⟩ := isGp_iff.1 (s.bringS [2])
  dsimp only [bringA, getA, delA] at s
  refine za rfl (zv (zg rfl (zm rfl (zn rfl (zf rfl (fa88_0 _ _) (zl rfl (by exact s.ld (k := 0) rfl ag24 rfl) ?_))))))
  refine zm rfl (WPs.call rfl rfl rfl rfl rfl rfl rfl (sread_ct (n := n) hT (s.bringS [4, 4, 4, 4]) hε.ok hε.pins (Nat.le_trans pot_wait hw)) ?_)
  rintro v h ⟨e, w, ε', hrd, (⟨he, rfl, s⟩ | ⟨rfl, u, rfl, s⟩)⟩
  ·dsimp only [bringA, getA, delA] at s
   refine zm rfl (ze rfl (ze rfl (za rfl (za rfl (zv (zw (zg rfl (zm rfl (WPs.opT rfl rfl rfl (o_bin rfl rfl bNeq) (by simp; exact he) ?_)))))))))
   refine zv (zi rfl (zg rfl (zm rfl (za rfl (za rfl (zv (WP.ret (hr e [] ε' _ _ (.err n _ ε e w ε' hrd he) he rfl rfl ?_))))))))
   have s := isGp_iff.2 ⟨nv, s.bringS [4, 4]⟩
   dsimp only [bringA, getA, delA] at s
   exact ((s.del 7).del 6).del 5
  ·dsimp only [bringA, getA, delA] at s
   have hε' := hrd.ok3 hε
   have hw' := Nat.le_trans hrd.pot hw
   have hlen := hrd.len hε
   refine zm rfl (ze rfl (ze rfl (za rfl (za rfl (zv (zw (zg rfl (zm rfl (WPs.opF rfl rfl rfl (o_bin rfl rfl bNeq) (rfl) ?_)))))))))
   have s := s.freezeBuf
   have s := s.bringS [5, 5, 1, 1, 1, 1, 1, 1, 1, 0]
   dsimp only [bringA, getA, delA] at s
   rcases mapV_look (n := n) (fun _ _ => Pers.rob _ _) (s.bringS [1]) Tryz.underlying86 Tryz.underlying3 zt32 with ⟨g1, g2, _⟩ | ⟨nw, b', g1, _, g2, s2⟩
   ·rw [hb] at g1; cases g1
   rw [hb] at g1
   have := Option.some.inj g1
   subst this
   refine zv (zj rfl (WP.skip (zg rfl (zm rfl (zn rfl (zf rfl (fa88_1 _ _) (zl rfl (by exact s.ld (k := 0) rfl ag86 rfl) ?_)))))))
   refine zm rfl (zo rfl (o_look rfl rfl g2) ?_)
   obtain ⟨dv, s⟩ := isSt_iff.1 (s2.bringS [3])
   dsimp only [bringA, getA, delA] at s
   have s := s.bringS [4]
   dsimp only [bringA, getA, delA] at s
   refine za rfl (zv (zg rfl (zm rfl (zn rfl (zf rfl (fa88_0 _ _) (zl rfl (by exact s.ld (k := 0) rfl ag24 rfl) ?_))))))
   refine zn rfl (zf rfl (fa85_2 _ _) (zl rfl (by exact s.ld (k := 1) rfl ag77 rfl) ?_))
   refine zm rfl (WPs.call rfl rfl rfl rfl rfl rfl rfl (rec_ct (n := n) hT (s.bringS [5])) ?_)
   rintro v h ⟨rfl, s⟩
   dsimp only [bringA, getA, delA] at s
   refine zm rfl (ze rfl (ze rfl (za rfl (za rfl (zv (zg rfl (zm rfl (zv ?_))))))))
   cases hd : (lookL n ε'.1.dirty).isSome with
   | true =>
    refine zi rfl (zr rfl (zm rfl (zm rfl (zm rfl (zm rfl (WPs.call rfl rfl rfl rfl rfl rfl rfl (ranges_ct hT (u := u) (v := nw) (pg := n) (s.bringS [11, 4]) (rd_ro _ _) (rd_ro _ _) hlen hb512) ?_))))))
    rintro rv h ⟨rcs, c, hc, hcl, s⟩
    dsimp only [bringA, getA, delA] at s
    obtain ⟨i1, hi1, hi2, hi3⟩ := info_chg
    have hcl1 : cs.length = acc.length * 4 := by
     obtain ⟨a, b, q1, q2, q3⟩ := s.at (k := 12) rfl
     exact chgA_len q3
    have hcl2 : rcs.length = c.length * 4 := by
     obtain ⟨a, b, q1, q2, q3⟩ := s.at (k := 1) rfl
     exact chgA_len q3
    obtain ⟨av', h2, e2', s2⟩ := sat_appArr (s.bringS [11, 0]) Tryz.underlying38 hi1 zt54 hi2 (by omega) rfl (by decide) (by omega)
    dsimp only [bringA, getA, delA] at s2
    refine WPs.any rfl rfl rfl (OpR.of (R := fun v h' => v = av' ∧ h' = h2) (o_app rfl rfl e2') ⟨rfl, rfl⟩) ?_
    rintro v' h' ⟨rfl, rfl⟩
    refine za rfl (zv (zr rfl (zb rfl (by exact bAdd (wrapS (by omega) (by omega))) ?_)))
    refine zm rfl (zv ?_)
    have s3 : Sat _ (chgA cs acc :: chgA rcs c :: _) := s2.bringS [12, 2]
    have s4 := s3.two (C := chgA (cs ++ rcs) (acc ++ c)) (Pers.chg _ _) (Pers.chg _ _) fun a b q1 q2 => chgA_app q1 q2
    dsimp only [bringA, getA, delA] at s4
    have s5 := isSt_iff.2 ⟨dv, s4.bringS [7, 7]⟩
    dsimp only [bringA, getA, delA] at s5
    have s6 := isGp_iff.2 ⟨nv, s5.bringS [7, 7]⟩
    dsimp only [bringA, getA, delA] at s6
    have s7 := (((s6.bringS [3, 2, 0, 0, 3, 3, 3, 3]).del 10).del 9).del 8
    dsimp only [bringA, getA, delA] at s7
    refine ih (i + 1) (acc ++ c) _ _ ε' _ _ Q (by omega) hε' hw' (by simp; omega) s7 ⟨rfl, rfl, rfl, rfl, rfl, trivial⟩ (fun e c' ε'' E' h' ht he l2 l3 s' => ?_) (fun c' ε'' E' h' av'' cs'' ht hl hE' s' => ?_)
    ·exact hr e _ ε'' E' h' (.part n _ ε w b ε' c e c' ε'' hrd hb hd hc hcl ht) he l2 l3 s'
    ·refine hx (c ++ c') ε'' E' h' av'' cs'' (.part n _ ε w b ε' c 0 c' ε'' hrd hb hd hc hcl ht) (by simp at hl ⊢; omega) hE' ?_
     rw [← List.append_assoc]
     exact s'
   | false =>
    refine zj rfl (zr rfl (zm rfl (zm rfl (zm rfl (WPs.call rfl rfl rfl rfl rfl rfl rfl (clone_atom hT (s.bringS [4]) (rd_ro _ _) (by omega)) ?_)))))
    intro cw h s
    dsimp only [bringA, getA, delA] at s
    obtain ⟨wid, _, wcap, _, rfl, _⟩ := s.openBuf (by omega)
    have s := s.freezeBuf
    refine zo rfl (o_build rfl (by rw [bv54]; rfl)) ?_
    obtain ⟨rv, h1, e1', s1⟩ := sat_bs1 (P := Tryz.prog) (k := 4) (x := .agg [.int .i64 n, .int .i64 0, .bool true, .sl wid 0 b.length wcap]) s Tryz.underlying38 zt54 sz54 rfl (by decide) (by decide) rfl rfl
    dsimp only [V.cells] at s1
    refine WPs.any rfl rfl rfl (OpR.of (R := fun v h' => v = rv ∧ h' = h1) (o_bs rfl e1') ⟨rfl, rfl⟩) ?_
    rintro v' h' ⟨rfl, rfl⟩
    obtain ⟨i1, hi1, hi2, hi3⟩ := info_chg
    have hcl1 : cs.length = acc.length * 4 := by
     obtain ⟨a, b, q1, q2, q3⟩ := s1.at (k := 11) rfl
     exact chgA_len q3
    obtain ⟨av', h2, e2', s2⟩ := sat_appArr (s1.bringS [10, 0]) Tryz.underlying38 hi1 zt54 hi2 (by omega) rfl (by decide) (by simp only [List.length_cons, List.length_nil]; omega)
    dsimp only [bringA, getA, delA] at s2
    refine WPs.any rfl rfl rfl (OpR.of (R := fun v h' => v = av' ∧ h' = h2) (o_app rfl rfl e2') ⟨rfl, rfl⟩) ?_
    rintro v' h' ⟨rfl, rfl⟩
    refine za rfl (zv (zr rfl (zb rfl (by exact bAdd (wrapS (by omega) (by omega))) ?_)))
    refine zm rfl (zv ?_)
    have s3 : Sat _ (chgA cs acc :: .rob (.sl wid 0 b.length wcap) b :: _) := s2.bringS [11, 2]
    have s4 := s3.two (C := chgA (cs ++ [.int .i64 n, .int .i64 0, .bool true, .sl wid 0 b.length wcap]) (acc ++ [⟨n, 0, true, b⟩])) (Pers.chg _ _) (Pers.rob _ _) fun a b q1 q2 => chgA_app q1 ⟨⟨⟨rfl, rfl, rfl⟩, q2⟩, trivial⟩
    dsimp only [bringA, getA, delA] at s4
    have s5 := isSt_iff.2 ⟨dv, s4.bringS [6, 6]⟩
    dsimp only [bringA, getA, delA] at s5
    have s6 := isGp_iff.2 ⟨nv, s5.bringS [6, 6]⟩
    dsimp only [bringA, getA, delA] at s6
    have s7 := (((s6.bringS [3, 2, 0, 0, 2, 2, 2, 2]).del 10).del 9).del 8
    dsimp only [bringA, getA, delA] at s7
    refine ih (i + 1) (acc ++ [⟨n, 0, true, b⟩]) _ _ ε' _ _ Q (by omega) hε' hw' (by simp; omega) s7 ⟨rfl, rfl, rfl, rfl, rfl, trivial⟩ (fun e c' ε'' E' h' ht he l2 l3 s' => ?_) (fun c' ε'' E' h' av'' cs'' ht hl hE' s' => ?_)
    ·exact hr e _ ε'' E' h' (.whole n _ ε w b ε' e c' ε'' hrd hb hd ht) he l2 l3 s'
    ·refine hx (⟨n, 0, true, b⟩ :: c') ε'' E' h' av'' cs'' (.whole n _ ε w b ε' 0 c' ε'' hrd hb hd ht) (by simp at hl ⊢; omega) hE' ?_
     rw [List.append_assoc] at s'
     exact s'
theorem changes_ct (hT : W told) (s : Sat h (isGp g a now over :: isSt a p q r op data chk :: isPl r p q ε.1 :: isLg q p ε.2.1 :: isDk p ε.2.2 :: S)) (hε : EOk3 ε) (hw : pot ε ≤ 268435456) (hnow : ∀ e ∈ now, e.2.length = 512) (hm : now.length ≤ 65536) (hk : ∀ n ∈ now.map (·.1), (Lit.int .i64 n).wf = true) :
  Call ⟨Tryz.prog, told⟩ 47 [.ptr g 0] h fun v h' => ∃ e c ε', ChR now (keysS now) ε e c ε' ∧
   ((e ≠ 0 ∧ v = .tup [.sl0, .int .i64 e] ∧ Sat h' (isGp g a now over :: isSt a p q r op data chk :: isPl r p q ε'.1 :: isLg q p ε'.2.1 :: isDk p ε'.2.2 :: S)) ∨
    (e = 0 ∧ c.length ≤ 33554432 ∧ ∃ av cs, v = .tup [av, .int .i64 0] ∧ Sat h' (.arr 4 av cs :: chgA cs c :: isGp g a now over :: isSt a p q r op data chk :: isPl r p q ε'.1 :: isLg q p ε'.2.1 :: isDk p ε'.2.2 :: S))) := by
 have hl : (keysS now).length = now.length := by rw [keysS, (srtI_perm _).length_eq, List.length_map]
 refine Call.of_wp (hT.free _ rfl) Tryz.func47 rfl rfl (zg rfl (za rfl (za rfl (zv (zg rfl (za rfl (zv (zw (zg rfl (zm rfl (WPs.call rfl rfl rfl rfl rfl rfl rfl (writes_ct hT s (by omega) hk) ?_)))))))))))
 intro kv h s
 refine zo rfl (o_len rfl rfl rfl (s.arrLen (n := (keysS now).length) (j := 0) rfl (by simp [intsV]) (by decide) Tryz.underlying98)) ?_
 refine zm rfl (zv (WP.block ?_))
 have s1 := (((s.addPu trivial).nilArr (k := 4)).ent fun a b q => q).bringS [0, 0, 1, 1, 1, 1, 1, 0]
 dsimp only [bringA, getA, delA] at s1
 refine changes_loop hT (ks := keysS now) (now := now) (by omega) (fun n hn => ?_) hnow (keysS now).length 0 [] .sl0 [] ε _ _ _ (by omega) hε hw (by simp) s1 ⟨rfl, rfl, rfl, rfl, rfl, trivial⟩ (fun e c ε' E' h' hr he l2 l3 s' => ?_) (fun c ε' E' h' av cs hr hcl hE' s' => ?_)
 ·have : n ∈ now.map (·.1) := (srtI_perm _).mem_iff.1 hn
  cases hq : lookL n now with
  | some _ => rfl
  | none => exact absurd this (lookL_none.1 hq)
 ·rw [List.drop_zero] at hr
  exact ⟨trivial, _, res2 l2 l3, e, c, ε', hr, .inl ⟨he, rfl, s'⟩⟩
 ·rw [List.drop_zero] at hr
  have s := s'
  refine WP.has hE' (zg rfl (zm rfl (za rfl (za rfl (zv ?_)))))
  refine WP.ret ⟨trivial, _, rfl, ?_⟩
  exact ⟨0, c, ε', hr, .inr ⟨rfl, by simp at hcl; omega, _, _, rfl, s⟩⟩
end
end Go.Proofs.YtconhghphklfjaaGreat.Am
