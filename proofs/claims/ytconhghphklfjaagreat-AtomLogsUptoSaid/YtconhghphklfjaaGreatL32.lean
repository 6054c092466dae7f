/- After a crash the log has the records of the groups that are there and no others, with their numbers and data; the conditions are those of the given statement, for arguments that a machine can hold. Part 32 of 54. -/
import Derived.Test.YtconhghphklfjaaGreatL31
namespace Go.Proofs.YtconhghphklfjaaGreat.Am
open Go
structure dU (π eG:Pl): Prop where
 aZ:eG.aZ=π.aZ
 cC:eG.cC=π.cC
 len:eG.ag.length=π.ag.length
 get:∀(i:Nat) (f:Fm),π.ag[i]?=some f→∃t,eG.ag[i]?=some { f with dn:=t }
theorem dU.refl (π:Pl): dU π π:=⟨rfl,rfl,rfl,fun _ f h=>⟨f.dn,h⟩⟩
theorem dU.trans {π J I:Pl}(a:dU π J)(b:dU J I): dU π I:=by
 refine ⟨b.aZ.trans a.aZ,b.cC.trans a.cC,b.len.trans a.len,fun i f h => ?_⟩
 obtain ⟨t,ht⟩:=a.get i f h
 obtain ⟨t',U⟩:=b.get i _ ht
 exact ⟨t',U⟩
theorem dU.hand {π:Pl}{n:Nat}: dU π { π with hand:=n }:=⟨rfl,rfl,rfl,fun _ f h=>⟨f.dn,h⟩⟩
theorem dU.Lw {π:Pl}{i:Nat}{f:Fm}(hi:π.ag[i]?=some f): dU π { π with ag:=π.ag.set i { f with dn:=false } }:=by
 refine ⟨rfl,rfl,List.length_set,fun j g I => ?_⟩
 by_cases h:i=j
 ·subst h
  rw [hi] at I
  have:=Option.some.inj I
  subst this
  have J:=(List.getElem?_eq_some_iff.1 hi).1
  exact ⟨false,by simp [List.getElem?_set,J]⟩
 ·exact ⟨g.dn,by simp only [List.getElem?_set,if_neg h]; exact I⟩
theorem IC {P:Program}{h:H}{t:TypeId}{x y:Operand}{a b:Nat}(I:0<b): binV P h .rem t x y (.int .i64 (a:Int)) (.int .i64 (b:Int))=some (.int .i64 ((a%b:Nat):Int)):=by
 simp only [binV,ikBeq,cond_true,intV]
 have:intBeq (b:Int) 0=false:=by rw [jH]; simp; omega
 rw [this,cond_false,Int.tmod_eq_emod_of_nonneg (by omega)]
 rfl
section
variable {told:Nat→Option (List V→H→Option (V×H))} {h:H} {S:List ah} {X:ah} {r k q p bw:Nat} {v x wh di:V} {l b:List Nat} {π:Pl} {m:List Fm}
theorem jt {i n:Nat}(hi:i<n): indexAddrV Tryz.prog 137 (.sl bw 0 n (.exact n)) (.int .i64 (i:Int))=some (.ptr bw (i*5)):=by
 rw [OW,show (decide ((0:Int)≤(i:Int))&&decide ((i:Int)<(n:Int)))=true by simp; omega,cond_true]
 simp
theorem BK (I:W told){f:Fm}(s:Sat h S)(J:storable v=true): Call ⟨Tryz.prog,told⟩ 126 [.agg (dr f v)] h fun w h'=>w=.bool (decide (f.pins=0))∧Sat h' S:=by
 refine Call.of_wp (I.free _ rfl) Tryz.func126 rfl rfl (zg rfl (ae.bO s rfl rfl rfl (ff rfl (by simp only [V.cells,dr,List.all_cons,List.all_nil,J]; rfl)) ?_))
 intro U h s
 dsimp only [V.cells,dr] at s
 refine za rfl (zv (zg rfl (zf rfl (lT _ _) (zl rfl (by exact s.ld (k:=0) rfl cq rfl) ?_))))
 refine zb rfl cS (za rfl (zv ?_))
 refine WP.ret ⟨trivial,_,rfl,?_⟩
 exact ⟨rfl,s.drop⟩
theorem ID (U:W told){f:Fm}(s:Sat h (cQ bw m::S))(h0:m[0]?=some f)(hp:f.pins=0): Call ⟨Tryz.prog,told⟩ 148 [.sl bw 0 m.length (.exact m.length),.fn (.func 126) [] []] h fun w h'=>w=.int .i64 0∧Sat h' (cQ bw m::S):=by
 have hl:=(List.getElem?_eq_some_iff.1 h0).1
 obtain ⟨pre,fv,post,I,hlen,s⟩:=fT s h0
 have J:=(s.ax (k:=2) rfl (bN _ _)).cells.2
 refine Call.of_wp (U.free _ rfl) Tryz.func148 rfl rfl (zg rfl (za rfl (zv (zw (zg rfl (zm rfl (zo rfl (aL rfl rfl rfl (by exact kF rfl Tryz.underlying137)) ?_)))))))
 refine zm rfl (zv (WP.block (WP.loop (zg rfl (ae.aR rfl rfl rfl (af rfl rfl aX) (by simp; omega) ?_)))))
 refine zv (zw (zi rfl (WP.skip (zw (WP.block (zg rfl (zm rfl (za rfl (zv (zg rfl (zm rfl (zm rfl (zm rfl (zo rfl (cH rfl rfl (jt (i:=0) hl)) (zl rfl (TD s (k:=0) rfl O1 vy I hlen) (ae.call rfl rfl rfl rfl rfl rfl rfl (BK U s J) ?_))))))))))))))))
 rintro w h ⟨rfl,s⟩
 rw [decide_eq_true hp]
 refine zv (zi rfl (zg rfl (zm rfl (za rfl (zv ?_)))))
 refine WP.ret ⟨trivial,_,rfl,?_⟩
 exact ⟨rfl,(gD.2 ⟨_,s⟩).del 1⟩
theorem BL (I:W told){f:Fm}(s:Sat h (cQ bw m::S))(J:m[0]?=some f)(U:f.pins=0): Call ⟨Tryz.prog,told⟩ 125 [.sl bw 0 m.length (.exact m.length),.fn (.func 126) [] []] h fun w h'=>w=.bool true∧Sat h' (cQ bw m::S):=by
 refine Call.of_wp (I.free _ rfl) Tryz.func125 rfl rfl (zg rfl (za rfl (zv (zg rfl (zm rfl (zm rfl (ae.call rfl rfl rfl rfl rfl rfl rfl (ID I s J U) ?_)))))))
 rintro w h ⟨rfl,s⟩
 refine ae.aR rfl rfl rfl (af rfl rfl kZ) (by decide) ?_
 refine za rfl (zv ?_)
 refine WP.ret ⟨trivial,_,rfl,?_⟩
 exact ⟨rfl,s⟩
noncomputable def TE : Code:=cn [1,0,0,1,0,0] ((Tryz.f94.body).getD .skip)
noncomputable def NB : Code:=cn [1,0,1,1,1,0,0] ((Tryz.f94.body).getD .skip)
theorem BM {wh di:V}{hand:Nat}: ∀(j i:Nat) (h:H) (E:List (Nat×V)) (Q:Ex→List (Nat×V)→H→Prop),i+j=m.length→m.length<4294967296 →
  Sat h (pt r (.cells 6 (lC p q bw m.length wh di hand) false)::cQ bw m::S)→Has E [(0,.ptr r 0),(10,.int .i64 m.length),(11,.int .i64 i)] →
  (∀I (i:Nat) (f:Fm),m[i]?=some f→f.aO<0→look I 2=some (.int .i64 (i:Int))→Q .ret I h) →
  (∀I,Has I [(0,.ptr r 0)]→Q (.exit 0) I h)→WP ⟨Tryz.prog,told⟩ 70 (.loop TE) E h Q:=by
 intro j
 induction j with
 | zero =>
  intro i h E Q hi hm s hE hr hx
  refine WP.loop (WP.has hE (zg rfl (ae.aE rfl rfl rfl (af rfl rfl aX) (by simp; omega) ?_)))
  refine zv (zw (zj rfl (WP.exit ?_)))
  exact hx _ ⟨rfl,trivial⟩
 | succ j ih =>
  intro i h E Q hi hm s hE hr hx
  have hc:m[i]?=some (m[i]'(by omega)):=List.getElem?_eq_getElem _
  generalize (m[i]'(by omega))=f at hc
  obtain ⟨pre,fv,post,J,hlen,s'⟩:=fT (s.aa [1]) hc
  refine WP.loop (WP.has hE (zg rfl (ae.aR rfl rfl rfl (af rfl rfl aX) (by simp; omega) ?_)))
  refine zv (zw (zi rfl (WP.skip (zw (WP.block (zg rfl (zm rfl (za rfl (zv (zg rfl (zm rfl (zn rfl (zf rfl (iF _ _) (zl rfl (by exact s.ld (k:=0) rfl lp rfl) ?_))))))))))))))
  refine zm rfl (zo rfl (cH rfl rfl (jt (i:=i) (by omega))) ?_)
  refine zf rfl (kD _ _) (zl rfl (s'.ld (k:=0) rfl cq (fD J rfl)) ?_)
  refine ae.dh rfl rfl rfl (af rfl rfl aX) ?_ ?_
  ·intro U
   have U:f.aO<0:=by simpa using U
   refine zv (zi rfl (zg rfl (zm rfl (za rfl (zv (WP.ret ?_))))))
   exact hr _ i f hc U rfl
  ·intro U
   refine zv (zj rfl (WP.skip (zr rfl (zb rfl (by exact bl (aF (by omega) (by omega))) ?_))))
   refine zm rfl (zv ?_)
   exact ih (i+1) h _ Q (by omega) hm s ⟨rfl,rfl,rfl,trivial⟩ hr hx
def lX (m:List Fm): Nat:=(m.filter fun f=>f.dn).length
theorem tT {f:Fm}: ∀ {m:List Fm} {i:Nat},m[i]?=some f→f.dn=true→lX (m.set i { f with dn:=false })+1=lX m:=by
 intro m
 induction m with
 | nil=>intro i h; simp at h
 | cons g m J =>
  intro i h I
  cases i with
  | zero=>simp at h; subst h; simp [lX,I]
  | succ i =>
   rw [List.getElem?_cons_succ] at h
   have:=J h I
   simp only [lX,List.set_cons_succ,List.filter_cons] at this ⊢
   split <;> (try simp only [List.length_cons]) <;> omega
theorem vJ {wh di:V}{f:Fm}{h:H}{E:List (Nat×V)}{Q:Ex→List (Nat×V)→H→Prop}(hf:π.ag[π.hand]?=some f)(hm:π.ag.length<4294967296)(hp:f.pins=0)
 (s:Sat h (pt r (.cells 6 (lC p q bw π.ag.length wh di π.hand) false)::cQ bw π.ag::S))(hE:Has E [(0,.ptr r 0)])
 (hr:f.dn=false→∀J h',look J 2=some (.int .i64 (π.hand:Int))→Sat h' (pt r (.cells 6 (lC p q bw π.ag.length wh di ((π.hand+1)%π.ag.length)) false)::cQ bw π.ag::S)→Q .ret J h')
 (hx:f.dn=true→∀J h',Has J [(0,.ptr r 0)]→Sat h' (pt r (.cells 6 (lC p q bw (π.ag.set π.hand { f with dn:=false }).length wh di ((π.hand+1)%π.ag.length)) false)::cQ bw (π.ag.set π.hand { f with dn:=false })::S)→WP ⟨Tryz.prog,told⟩ 70 (.loop NB) J h' Q):
  WP ⟨Tryz.prog,told⟩ 70 (.loop NB) E h Q:=by
 have hl:=(List.getElem?_eq_some_iff.1 hf).1
 refine WP.loop (WP.has hE (WP.block (zg rfl (zm rfl (zn rfl (zf rfl (wQ _ _) (zl rfl (by exact s.ld (k:=0) rfl cq rfl) ?_)))))))
 refine za rfl (zv (zg rfl (zm rfl (zn rfl (zf rfl (iF _ _) (zl rfl (by exact s.ld (k:=0) rfl lp rfl) ?_))))))
 refine zm rfl (zo rfl (cH rfl rfl (jt (i:=π.hand) hl)) (za rfl (zv (zw (WP.drawn [none,none,none,none,none,none,none,none,none,none,none,none,none,none,none] rfl (by kernel_rfl) (by kernel_rfl) ?_)))))
 refine zM rfl (zM rfl (zN rfl (zF rfl (wQ _ _) (zL rfl (by exact s.ld (k:=0) rfl cq rfl) ?_))))
 refine zO rfl (af rfl rfl (by exact bl (aF (by omega) (by omega)))) ?_
 refine zM rfl (zN rfl (zF rfl (iF _ _) (zL rfl (by exact s.ld (k:=0) rfl lp rfl) ?_)))
 refine zO rfl (aL rfl rfl rfl (by exact kF rfl Tryz.underlying137)) ?_
 refine zO rfl (af rfl rfl (IC (a:=π.hand+1) (by omega))) ?_
 refine zN rfl (zF rfl (wQ _ _) (au.fI rfl rfl rfl (OpR.bn rfl rfl rfl (s.cZ (k:=0) rfl jh rfl (by decide) rfl rfl)) ?_))
 rintro v h ⟨rfl,s⟩
 have s:Sat h (pt r (.cells 6 (lC p q bw π.ag.length wh di ((π.hand+1)%π.ag.length)) false)::cQ bw π.ag::S):=s
 refine au.nil ⟨⟨trivial,trivial,trivial,trivial,trivial,trivial,trivial,trivial,trivial,trivial,trivial,trivial,trivial,trivial,trivial,trivial⟩,?_⟩
 obtain ⟨pre,fv,post,I,hlen,s⟩:=fT (s.aa [1]) hf
 dsimp only [bringA,getA,ai] at s
 refine zw (WP.block (zg rfl (zm rfl (zn rfl (zf rfl (lT _ _) (zl rfl (s.ld (k:=0) rfl cq (fD I rfl)) (ae.aE rfl rfl rfl (af rfl rfl dS) (by rw [hp]; decide) ?_)))))))
 refine za rfl (zv (zj rfl (zg rfl (zm rfl (zn rfl (zf rfl (wS _ _) (zl rfl (s.ld (k:=0) rfl gU (fD I rfl)) (za rfl (zv ?_)))))))))
 have TF:f.dn=false∨f.dn=true:=by cases f.dn <;> simp
 rcases TF with U | U
 ·refine WP.JX rfl (U) ?_
  refine zg rfl (zm rfl (za rfl (zv (WP.ret (hr U _ _ rfl ?_)))))
  have s:=gD.2 ⟨_,s.aa [0,0]⟩
  dsimp only [bringA,getA,ai] at s
  exact (s.del 1).aa [1,0]
 ·skip
  refine WP.DN rfl (U) (zr rfl (zm rfl (zn rfl (zf rfl (wS _ _) (ae.bn rfl rfl rfl rfl rfl (s.stM (k:=0) (j:=3) rfl qK I hlen (by simp [dr]) rfl rfl) ?_)))))
  intro h s
  dsimp only [setA] at s
  have e5:(dr f fv).set 3 (.bool false)=dr { f with dn:=false } fv:=rfl
  rw [e5] at s
  refine zv (WP.exit (hx U _ _ ⟨rfl,trivial⟩ ?_))
  have s:=eo (i:=π.hand) (f':={ f with dn:=false }) s rfl hf I
  rw [List.length_set]
  exact s.aa [1,0]
theorem BN {wh di:V}: ∀(fuel:Nat) (π:Pl) (h:H) (E:List (Nat×V)) (Q:Ex→List (Nat×V)→H→Prop),lX π.ag≤fuel→π.hand<π.ag.length→π.ag.length<4294967296→(∀f∈π.ag,f.pins=0) →
  Sat h (pt r (.cells 6 (lC p q bw π.ag.length wh di π.hand) false)::cQ bw π.ag::S)→Has E [(0,.ptr r 0)] →
  (∀U h' (i:Nat) (I:Pl) (f:Fm),dU π I→I.ag[i]?=some f→I.hand<I.ag.length→look U 2=some (.int .i64 (i:Int))→Sat h' (pt r (.cells 6 (lC p q bw I.ag.length wh di I.hand) false)::cQ bw I.ag::S)→Q .ret U h') →
  WP ⟨Tryz.prog,told⟩ 70 (.loop NB) E h Q:=by
 intro fuel
 induction fuel with
 | zero =>
  intro π h E Q ht hh hm hp s hE hr
  have J:π.ag[π.hand]?=some (π.ag[π.hand]'hh):=List.getElem?_eq_getElem _
  generalize (π.ag[π.hand]'hh)=f at J
  refine vJ J hm (hp f (List.mem_of_getElem? J)) s hE (fun h1 U h' h2 s' => ?_) (fun h1 => ?_)
  ·exact hr U h' π.hand { π with hand:=(π.hand+1)%π.ag.length } f dU.hand J (Nat.mod_lt _ (by omega)) h2 s'
  ·have:=tT J h1
   omega
 | succ fuel ih =>
  intro π h E Q ht hh hm hp s hE hr
  have J:π.ag[π.hand]?=some (π.ag[π.hand]'hh):=List.getElem?_eq_getElem _
  generalize (π.ag[π.hand]'hh)=f at J
  refine vJ J hm (hp f (List.mem_of_getElem? J)) s hE (fun h1 U h' h2 s' => ?_) (fun h1 U h' fu s' => ?_)
  ·exact hr U h' π.hand { π with hand:=(π.hand+1)%π.ag.length } f dU.hand J (Nat.mod_lt _ (by omega)) h2 s'
  ·have Cl:=tT J h1
   have hn:dU π { π with ag:=π.ag.set π.hand { f with dn:=false },hand:=(π.hand+1)%π.ag.length }:=(dU.Lw J).trans dU.hand
   refine ih { π with ag:=π.ag.set π.hand { f with dn:=false },hand:=(π.hand+1)%π.ag.length } h' U Q (by show lX (π.ag.set π.hand { f with dn:=false })≤fuel; omega) ?_ (by simp only [List.length_set]; exact hm) (fun g hg => ?_) s' fu (fun E2 h2 i I g TG hg Kk hl s2=>hr E2 h2 i I g (hn.trans TG) hg Kk hl s2)
   ·simp only [List.length_set]; exact Nat.mod_lt _ (by omega)
   ·rcases List.mem_or_eq_of_mem_set hg with hg | rfl
    ·exact hp g hg
    ·exact hp f (List.mem_of_getElem? J)
theorem IE (hT:W told){wh di:V}(s:Sat h (pt r (.cells 6 (lC p q bw π.ag.length wh di π.hand) false)::cQ bw π.ag::S))(hh:π.hand<π.ag.length)(hm:π.ag.length<4294967296)(hp:∀f∈π.ag,f.pins=0):
  Call ⟨Tryz.prog,told⟩ 94 [.ptr r 0] h fun v h'=>∃(i:Nat) (I:Pl) (f:Fm),v=.int .i64 (i:Int)∧dU π I∧I.ag[i]?=some f∧I.hand<I.ag.length ∧
   Sat h' (pt r (.cells 6 (lC p q bw I.ag.length wh di I.hand) false)::cQ bw I.ag::S):=by
 have J:π.ag[0]?=some (π.ag[0]'(by omega)):=List.getElem?_eq_getElem _
 generalize (π.ag[0]'(by omega))=f0 at J
 have s0:=s
 refine Call.of_wp (hT.free _ rfl) Tryz.func94 rfl rfl (zg rfl (za rfl (zv (WP.scope (zw (zg rfl (zm rfl (zn rfl (zf rfl (iF _ _) (zl rfl (by exact s.ld (k:=0) rfl lp rfl) ?_))))))))))
 refine zo rfl (aL rfl rfl rfl (by exact kF rfl Tryz.underlying137)) ?_
 refine zm rfl (zv (WP.block ?_))
 refine BM π.ag.length 0 _ _ _ (by omega) hm s ⟨rfl,rfl,rfl,trivial⟩ (fun E' i f U _ h2 => ?_) (fun E' fu => ?_)
 ·exact ⟨trivial,_,oO h2,i,π,f,rfl,dU.refl π,U,hh,s⟩
 ·skip
  refine WP.has fu (zw (zg rfl (zm rfl (zn rfl (zf rfl (iF _ _) (zl rfl (by exact s.ld (k:=0) rfl lp rfl) ?_))))))
  refine ae.call rfl rfl rfl rfl rfl rfl rfl (BL hT (s.aa [1]) J (hp f0 (List.mem_of_getElem? J))) ?_
  rintro w h ⟨rfl,s⟩
  refine zo rfl (dA rfl rfl) (zv (zj rfl (WP.skip (zw (WP.label (WP.block ?_))))))
  refine BN (lX π.ag) π _ _ _ (Nat.le_refl _) hh hm hp (s.aa [1,0]) ⟨rfl,trivial⟩ (fun E' h' i I f hn U Kk h2 s' => ?_)
  exact ⟨trivial,_,oO h2,i,I,f,rfl,hn,U,Kk,s'⟩
end
end Go.Proofs.YtconhghphklfjaaGreat.Am
